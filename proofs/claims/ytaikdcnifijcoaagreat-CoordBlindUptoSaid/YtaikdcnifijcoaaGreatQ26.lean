/-
  The walks of package coord: who is asked.
-/
import Derived.Test.YtaikdcnifijcoaaGreatQ25
set_option linter.unusedVariables false
set_option linter.unusedSimpArgs false
namespace Go.Vc
section
variable {C : Cx} {o : Oper} {L : Env} {H : Heap} {b : Nat} {l : KV}
theorem Ef.insert [Tbl C.P] {mt kt et sz bt sz' bt' : Nat} {z z' : Value} {x y v : Operand} {k : Int} {u : Value} {K : Value → Heap → Prop} (ho : o.op = .insert mt x y v) (hx : L.ev x = some (.map (some b))) (hy : L.ev y = some (IK k)) (hv : L.ev v = some u) (hm : MapI H b l)
    (ht : ty C.P mt = some ⟨.map kt et, sz, bt, z⟩) (hkt : ty C.P kt = some ⟨.int .i64, sz', bt', z'⟩) (hi : i64 k)
    (hk : ∀ H', MapI H' b (mput l k u) → Chg (fun c => c = b) H H' → K undef H') : Ef C o L H K :=
  Ef.of (by rw [ho]; rfl) fun a w ha hw => by
    have h1 := agr_of ha hx (by rw [ho]; simp [Op.operands])
    have h2 := agr_of ha hy (by rw [ho]; simp [Op.operands])
    have h3 := agr_of ha hv (by rw [ho]; simp [Op.operands])
    subst hw
    obtain ⟨w', hr, hs, hm', hc⟩ := run_updateI (v := u) hm ht hkt hi
    refine .inr ⟨w', ?_, hs, hk _ hm' hc⟩
    simp only [execOp, ho, h1, h2, h3, Sem.run_bind, hr, Result.andThen]
    rfl
end
section
variable {C : Cx} {ops : Array Oper} {l : List Oper} {L : Env} {ds : List Nat} {H : Heap} {Kk : Env → Heap → Prop} {o : Oper} {B : Array Nat} {p : Plan} {pend : List Rec} {b : Nat} {m : KV}
theorem RegS.insert [Tbl C.P] {mt kt et sz bt sz' bt' : Nat} {z z' : Value} {x y v : Operand} {k : Int} {u : Value} (hm : MapI H b m) (hi : i64 k)
    (kk : ∀ H', MapI H' b (mput m k u) → Chg (fun c => c = b) H H' → RegS C ops l L ds H' Kk)
    (ho : o.op = .insert mt x y v := by rfl) (hx : L.ev x = some (.map (some b)) := by rfl) (hy : L.ev y = some (IK k) := by rfl) (hv : L.ev v = some u := by rfl)
    (ht : ty C.P mt = some ⟨.map kt et, sz, bt, z⟩ := by rfl) (hkt : ty C.P kt = some ⟨.int .i64, sz', bt', z'⟩ := by rfl)
    (hds : o.dst = none := by rfl) (hg : gd ops o L = some true := by rfl) : RegS C ops (o :: l) L ds H Kk :=
  RegS.ef hg (by rw [hds]; rfl) (Ef.insert ho hx hy hv hm ht hkt hi fun H' h1 h2 => by rw [hds]; exact kk H' h1 h2)
end
end Go.Vc
namespace Go.Proofs.YtaikdcnifijcoaaGreat
open Go Go.Vc Go.Gf
variable {H : Heap} {O : Ow} {cb fb bb sb N T K E R : Nat} {down : Bool} {s : Slt} {t : TaskA} {ts : TaskS}
/-- What is asked for, by phase. -/
def kindOf (p : Int) : Int := if p = 1 then 1 else if p = 2 then 3 else if p = 3 then 5 else if p = 4 then 7 else 0
theorem kindOf_get (p : Int) : (mget (mput (mput (mput (mput [] 1 (IV 1)) 2 (IV 3)) 3 (IV 5)) 4 (IV 7)) p).getD (IV 0) = IV (kindOf p) := by
  have e : mput (mput (mput (mput [] 1 (IV 1)) 2 (IV 3)) 3 (IV 5)) 4 (IV 7) = [(1, IV 1), (2, IV 3), (3, IV 5), (4, IV 7)] := by rfl
  rw [e]
  simp only [mget, kindOf]
  by_cases h1 : p = 1
  · subst h1; rfl
  rw [if_neg (fun h => h1 h.symm), if_neg h1]
  by_cases h2 : p = 2
  · subst h2; rfl
  rw [if_neg (fun h => h2 h.symm), if_neg h2]
  by_cases h3 : p = 3
  · subst h3; rfl
  rw [if_neg (fun h => h3 h.symm), if_neg h3]
  by_cases h4 : p = 4
  · subst h4; rfl
  rw [if_neg (fun h => h4 h.symm), if_neg h4]; rfl
/-- Who is asked. -/
def askWho (t : TaskA) : List Int := if t.phase = 4 then t.dealers else t.parts
def askIs (t : TaskA) (n : Int) : Bool := !((cget t.got n).isSome && decide (t.phase ≠ 4))
def askL (t : TaskA) (v : BookA) (l : List Int) : List MsgA := (l.filter (askIs t)).map (msgOf t v (kindOf t.phase))
theorem askL_snoc (t : TaskA) (v : BookA) (l : List Int) (n : Int) : askL t v (l ++ [n]) = askL t v l ++ if askIs t n = true then [msgOf t v (kindOf t.phase) n] else [] := by
  unfold askL
  rw [List.filter_append, List.map_append]
  congr 1
  by_cases h : askIs t n = true
  · rw [if_pos h, List.filter_cons_of_pos h]; rfl
  · rw [if_neg h, List.filter_cons_of_neg h]; rfl
/-- A list of messages that grows. -/
structure MsgG (A : Heap) (base : Nat) (a : Sl) (L : List MsgP) : Prop where
  own : OwnR A base 38 16 a (L.flatMap msgPC)
  each : ∀ j, j < L.length → MsgIn A (L.getD j (msg0, msgS0)).1 (L.getD j (msg0, msgS0)).2
  ge : ∀ j, j < L.length → MsgGe base (L.getD j (msg0, msgS0)).2
  hd : ∀ j, j < L.length → ∀ b, a.blk = some b → (0 < (L.getD j (msg0, msgS0)).2.hd.len → (L.getD j (msg0, msgS0)).2.hd.blk ≠ some b) ∧ (0 < (L.getD j (msg0, msgS0)).2.de.len → (L.getD j (msg0, msgS0)).2.de.blk ≠ some b) ∧ (0 < (L.getD j (msg0, msgS0)).2.pa.len → (L.getD j (msg0, msgS0)).2.pa.blk ≠ some b) ∧ (0 < (L.getD j (msg0, msgS0)).2.da.len → (L.getD j (msg0, msgS0)).2.da.blk ≠ some b)
theorem MsgG.nil (A : Heap) (base : Nat) : MsgG A base Sl.nil [] := ⟨OwnR.nil _ _ _ _, fun j hj => absurd hj (by simp), fun j hj => absurd hj (by simp), fun j hj => absurd hj (by simp)⟩
theorem MsgG.ext {A B : Heap} {base : Nat} {a : Sl} {L : List MsgP} (h : MsgG A base a L) (x : Ext A B) : MsgG B base a L := ⟨h.own.ext x, fun j hj => (h.each j hj).ext x, h.ge, h.hd⟩
theorem MsgG.list {A : Heap} {base : Nat} {a : Sl} {L : List MsgP} (h : MsgG A base a L) : MsgL A a L := ⟨h.own.crow msgPC_len (by omega), h.each⟩
theorem MsgG.add {A B : Heap} {base : Nat} {a a' : Sl} {L : List MsgP} {m : MsgP} (h : MsgG A base a L) (hm : MsgIn A m.1 m.2) (hg : MsgGe base m.2) (hn : ∀ b, a.blk = some b → (0 < m.2.hd.len → m.2.hd.blk ≠ some b) ∧ (0 < m.2.de.len → m.2.de.blk ≠ some b) ∧ (0 < m.2.pa.len → m.2.pa.blk ≠ some b) ∧ (0 < m.2.da.len → m.2.da.blk ≠ some b))
    (ho : OwnR B base 38 16 a' (L.flatMap msgPC ++ msgPC m)) (hc : Chg (fun b => a.blk = some b) A B) (hb : a'.blk = a.blk ∨ ∃ b, a'.blk = some b ∧ A.size ≤ b) : MsgG B base a' (L ++ [m]) := by
  have hall : ∀ j, j < (L ++ [m]).length → (MsgIn A ((L ++ [m]).getD j (msg0, msgS0)).1 ((L ++ [m]).getD j (msg0, msgS0)).2 ∧ MsgGe base ((L ++ [m]).getD j (msg0, msgS0)).2 ∧ ∀ b, a.blk = some b → (0 < ((L ++ [m]).getD j (msg0, msgS0)).2.hd.len → ((L ++ [m]).getD j (msg0, msgS0)).2.hd.blk ≠ some b) ∧ (0 < ((L ++ [m]).getD j (msg0, msgS0)).2.de.len → ((L ++ [m]).getD j (msg0, msgS0)).2.de.blk ≠ some b) ∧ (0 < ((L ++ [m]).getD j (msg0, msgS0)).2.pa.len → ((L ++ [m]).getD j (msg0, msgS0)).2.pa.blk ≠ some b) ∧ (0 < ((L ++ [m]).getD j (msg0, msgS0)).2.da.len → ((L ++ [m]).getD j (msg0, msgS0)).2.da.blk ≠ some b)) := by
    intro j hj
    rw [List.length_append, List.length_singleton] at hj
    by_cases hl : j < L.length
    · have e : (L ++ [m]).getD j (msg0, msgS0) = L.getD j (msg0, msgS0) := by
        simp [List.getD_eq_getElem?_getD, List.getElem?_append_left hl]
      rw [e]; exact ⟨h.each j hl, h.ge j hl, h.hd j hl⟩
    · have e : (L ++ [m]).getD j (msg0, msgS0) = m := by
        rw [show j = L.length by omega]
        simp [List.getD_eq_getElem?_getD]
      rw [e]; exact ⟨hm, hg, hn⟩
  refine ⟨?_, fun j hj => ?_, fun j hj => (hall j hj).2.1, fun j hj b hb' => ?_⟩
  · rw [List.flatMap_append]; simpa using ho
  · obtain ⟨h1, h2, h3⟩ := hall j hj
    exact ⟨h1.hd.chgN hc fun hp b hb e => (h3 b e).1 hp hb, h1.de.chgN hc fun hp b hb => ⟨h1.de.lt hp b hb, fun e => (h3 b e).2.1 hp hb⟩, h1.pa.chgN hc fun hp b hb => ⟨h1.pa.lt hp b hb, fun e => (h3 b e).2.2.1 hp hb⟩, RowF.chgN h1.da hc fun hp b hb => ⟨RowF.lt h1.da hp b hb, fun e => (h3 b e).2.2.2 hp hb⟩⟩
  · obtain ⟨h1, h2, h3⟩ := hall j hj
    rcases hb with e | ⟨z, e, hz⟩
    · rw [e] at hb'; exact h3 b hb'
    · rw [e] at hb'
      simp only [Option.some.injEq] at hb'
      subst hb'
      exact ⟨fun hp hb => by have := h1.hd.lt hp _ hb; omega, fun hp hb => by have := h1.de.lt hp _ hb; omega, fun hp hb => by have := h1.pa.lt hp _ hb; omega, fun hp hb => by have := RowF.lt h1.da hp _ hb; omega⟩
theorem msgC_one (m : MsgA) (ms : MsgS) : ∀ v ∈ msgC m ms, oneCell v = true := by
  intro v hv
  simp only [List.mem_cons, List.not_mem_nil, or_false] at hv
  rcases hv with rfl | rfl | rfl | rfl | rfl | rfl | rfl | rfl | rfl | rfl | rfl | rfl | rfl | rfl | rfl | rfl <;> rfl
theorem GotRow.at {b : Nat} {l : SV} {c : CV} (h : GotRow H O b l c) (q : Int) : (sget l q = none ∧ cget c q = none) ∨ ∃ s d, sget l q = some s ∧ cget c q = some d ∧ RoB H O s d := pair_at l c h.keys h.rows q
theorem GotRow.some {b : Nat} {l : SV} {c : CV} (h : GotRow H O b l c) (q : Int) : (mget (kvs l) q).isSome = (cget c q).isSome := by
  rw [mget_kvs]
  rcases h.at q with ⟨e1, e2⟩ | ⟨s, d, e1, e2, _⟩ <;> rw [e1, e2] <;> rfl
set_option maxHeartbeats 8000000 in
theorem coAsk_ok (v : BookA) (mb : Nat) (l : SV) (hn : N ≤ 255) (hw : WfO H O) (h : CoAt H O cb fb bb sb N T K E R down s t ts) (hv : BkIs N s v) (hg : ts.got = some mb) (hl : GotRow H O mb l t.got) (hph : -9223372036854775808 ≤ t.phase ∧ t.phase ≤ 9223372036854775807) (hp : t.parts.length ≤ 1000) (hd : t.dealers.length ≤ 1000) (hin : ∀ n ∈ askWho t, 0 ≤ n ∧ n < N) :
    CallsH Tryz.prog 88 [ptrD cb] H fun r H' => ∃ (w : Sl) (L : List MsgP), r = w.val ∧ MsgL H' w L ∧ L.map (·.1) = askL t v (askWho t) ∧ Ext H H' ∧ (∀ b, w.blk = some b → H.size ≤ b) ∧ ∀ j, j < L.length → MsgGe H.size (L.getD j (msg0, msgS0)).2 := by
  obtain ⟨tp, td, tl, tq, tg⟩ := ts
  have hg : tg = some mb := hg
  subst hg
  have hb := h.blk
  have hfit := hv.fit
  have hfd := hfit.dir
  have hcom := hfit.commit
  refine CallsH.enter h88 Tryz.func88 rfl rfl rfl (by decide) fun u => run ?_
  refine RegS.call (view_ok v hn hw h.book hv) ?_
  rintro _ H1 ⟨c, rfl, hi, x1, g1, g2, g3, nw⟩
  refine run ?_
  refine RegS.allocA fun H2 x2 z2 b2 => ?_
  have b2 : Blk H2 H1.size 55 [IV 0, IV 0, IV 0, Sl.nil.val, Sl.nil.val, Sl.nil.val] := b2
  refine run ?_
  refine RegS.storeA (us := bookC v c) b2 ?_
  obtain ⟨b3, x3⟩ := Blk.lay (bookC v c) b2 x2 (Nat.le_refl _) rfl
  generalize hsets H2 H1.size 0 (bookC v c) = H3 at b3 x3 ⊢
  refine run ?_
  refine RegS.makeMap fun M0 m0 y0 w0 => ?_
  refine RegS.insert (k := 1) (u := IV 1) m0 ⟨by omega, by omega⟩ fun M1 m1 c1 => ?_
  refine RegS.insert (k := 2) (u := IV 3) m1 ⟨by omega, by omega⟩ fun M2 m2 c2 => ?_
  refine RegS.insert (k := 3) (u := IV 5) m2 ⟨by omega, by omega⟩ fun M3 m3 c3 => ?_
  refine RegS.insert (k := 4) (u := IV 7) m3 ⟨by omega, by omega⟩ fun M4 m4 c4 => ?_
  have cc := ((c1.trans c2).trans c3).trans c4
  have xM : Ext H3 M4 := y0.then cc fun b hb => by omega
  have x0M := (x1.trans x3).trans xM
  have hM := h.ext hw x0M
  have hbM := hM.blk
  have bM := b3.ext xM
  have iM := (hi.ext x3).ext xM
  refine run ?_
  refine RegS.lookup1 (k := t.phase) m4 hph ?_
  rw [show (mget (mput (mput (mput (mput [] 1 (IV 1)) 2 (IV 3)) 3 (IV 5)) 4 (IV 7)) t.phase).getD (Value.int .i64 0) = IV (kindOf t.phase) from kindOf_get t.phase]
  refine run ?_
  refine Wp.br (fun hp4 => ?_) (fun hp4 => ?_)
  · have hp4 : t.phase = 4 := hp4
    refine run ?_
    have hwho : askWho t = t.dealers := by unfold askWho; rw [if_pos hp4]
    rw [hwho] at hin ⊢
    have hrow : RowF IV 0 M4 td t.dealers := h.task.dealers.row.ext x0M
    have hll : t.dealers.length ≤ 1000 := hd
    have hzM := xM.size
    have hz0 := x0M.size
    refine run ?_
    refine Wp.loop (ι := Nat × Sl × List MsgP) (fun i => [(0, ptrD cb), (3, ptrD H1.size), (4, IV (kindOf t.phase)), (6, i.2.1.val), (40, td.val), (41, I64 t.dealers.length), (42, I64 i.1)])
      (fun i A => i.1 ≤ t.dealers.length ∧ MsgG A M4.size i.2.1 i.2.2 ∧ i.2.2.map (·.1) = askL t v (t.dealers.take i.1) ∧ i.2.2.length ≤ i.1 ∧ Ext M4 A) (fun i => t.dealers.length - i.1) (0, Sl.nil, []) subs ⟨Nat.zero_le _, MsgG.nil _ _, rfl, Nat.le_refl _, Ext.refl _⟩ ?_
    rintro ⟨i, a, L⟩ A ⟨hi1, gA, eL, hL, xA⟩
    have hi1 : i ≤ t.dealers.length := hi1
    have gA : MsgG A M4.size a L := gA
    have eL : L.map (·.1) = askL t v (t.dealers.take i) := eL
    have hL : L.length ≤ i := hL
    have xA : Ext M4 A := xA
    have hrA := hrow.ext xA
    have x0A := x0M.trans xA
    have hA := h.ext hw x0A
    have hbA := hA.blk
    have bA := bM.ext xA
    have mA := hl.map.ext x0A
    have zA := xA.size
    have nx : ∀ (a' : Sl) (L' : List MsgP) (B : Heap), i < t.dealers.length → MsgG B M4.size a' L' → L'.map (·.1) = askL t v (t.dealers.take i) ++ (if askIs t (t.dealers.getD i 0) = true then [msgOf t v (kindOf t.phase) (t.dealers.getD i 0)] else []) → L'.length ≤ i + 1 → Ext M4 B → (i + 1 ≤ t.dealers.length ∧ MsgG B M4.size a' L' ∧ L'.map (·.1) = askL t v (t.dealers.take (i + 1)) ∧ L'.length ≤ i + 1 ∧ Ext M4 B) := by
      intro a' L' B hlt g e hl' x
      exact ⟨hlt, g, by rw [e, take_snoc' 0 hlt, askL_snoc], hl', x⟩
    show Wp _ _ _ [(0, ptrD cb), (3, ptrD H1.size), (4, IV (kindOf t.phase)), (6, a.val), (40, td.val), (41, I64 t.dealers.length), (42, I64 i)] _ _
    refine run ?_
    refine Wp.br (fun hlt => ?_) (fun hlt => ?_)
    case refine_2 =>
      have hlt : ¬ (i : Int) < (t.dealers.length : Int) := hlt
      have hie : i = t.dealers.length := by omega
      subst hie
      rw [List.take_length] at eL
      refine run ?_
      exact ret1 ⟨a, L, rfl, gA.list, eL, x0A, fun b hb => by have := (OwnR.blk_ge gA.own hb).1; omega, fun j hj => (gA.ge j hj).mono (by omega)⟩
    have hlt : (i : Int) < (t.dealers.length : Int) := hlt
    have hit : i < t.dealers.length := by omega
    have hmem := hin (t.dealers.getD i 0) (by rw [getD_get _ hit]; exact List.getElem_mem _)
    have nx := fun a' L' B => nx a' L' B hit
    refine run ?_
    generalize t.dealers.getD i 0 = q at hmem nx ⊢
    obtain ⟨q, rfl⟩ := Int.eq_ofNat_of_zero_le hmem.1
    refine RegS.lookup2 (k := (q : Int)) mA ⟨by omega, by omega⟩ ?_
    rw [hl.some]
    cases hs : (cget t.got (q : Int)).isSome with
    | true =>
      refine run ?_
      have hq : askIs t (q : Int) = true := by simp [askIs, hs, hp4]
      rw [if_pos hq] at nx
      refine run ?_
      refine RegS.call (coMessage_ok v c (kindOf t.phase) q (by omega) hfd (hw.ext x0A) hA (iM.ext xA) ⟨by omega, by omega⟩) ?_
      rintro _ A1 ⟨ms, rfl, im, y1, gm⟩
      refine run ?_
      refine RegS.buildOne (e := 0) (cs := msgC (msgOf t v (kindOf t.phase) q) ms) 38 fun A2 b6 y2 z2 => ?_
      have y12 := y1.trans y2
      have gA2 := gA.ext y12
      have hal : a.len = L.length := gA.list.row.len
      have zy := y12.size
      refine run ?_
      refine RegS.appendN gA2.own (r := Sl.fresh A1.size 1) (ys := msgC (msgOf t v (kindOf t.phase) q) ms) rfl (Blk.one b6) (msgC_one _ _) (by omega) ?_ ?_ ?_
      · show (a.len + 1) * _ ≤ _; omega
      · show a.len + 1 ≤ _; omega
      intro a' A3 o3 c3 b3
      have hnb : ∀ b, a.blk = some b → b < A.size := fun b hb => (OwnR.blk_ge gA.own hb).2
      refine run ?_
      refine roundQ_n (i + 1, a', L ++ [(msgOf t v (kindOf t.phase) q, ms)]) subs (nx a' _ A3 (gA2.add (m := (msgOf t v (kindOf t.phase) q, ms)) (im.ext y2) (gm.mono (by omega)) (fun b hb => ⟨fun _ e => ?_, fun _ e => ?_, fun _ e => ?_, fun _ e => ?_⟩) o3 c3 b3) (by simp [eL]) (by simp; omega) ((xA.trans y12).then c3 fun b hb => (OwnR.blk_ge gA.own hb).1)) (by show t.dealers.length - (i + 1) < t.dealers.length - i; omega)
      · have := gm.hd b e; have := hnb b hb; omega
      · have := gm.de b e; have := hnb b hb; omega
      · have := gm.pa b e; have := hnb b hb; omega
      · have := gm.da b e; have := hnb b hb; omega
    | false =>
      refine run ?_
      have hq : askIs t (q : Int) = true := by simp [askIs, hs]
      rw [if_pos hq] at nx
      refine run ?_
      refine RegS.call (coMessage_ok v c (kindOf t.phase) q (by omega) hfd (hw.ext x0A) hA (iM.ext xA) ⟨by omega, by omega⟩) ?_
      rintro _ A1 ⟨ms, rfl, im, y1, gm⟩
      refine run ?_
      refine RegS.buildOne (e := 0) (cs := msgC (msgOf t v (kindOf t.phase) q) ms) 38 fun A2 b6 y2 z2 => ?_
      have y12 := y1.trans y2
      have gA2 := gA.ext y12
      have hal : a.len = L.length := gA.list.row.len
      have zy := y12.size
      refine run ?_
      refine RegS.appendN gA2.own (r := Sl.fresh A1.size 1) (ys := msgC (msgOf t v (kindOf t.phase) q) ms) rfl (Blk.one b6) (msgC_one _ _) (by omega) ?_ ?_ ?_
      · show (a.len + 1) * _ ≤ _; omega
      · show a.len + 1 ≤ _; omega
      intro a' A3 o3 c3 b3
      have hnb : ∀ b, a.blk = some b → b < A.size := fun b hb => (OwnR.blk_ge gA.own hb).2
      refine run ?_
      refine roundQ_n (i + 1, a', L ++ [(msgOf t v (kindOf t.phase) q, ms)]) subs (nx a' _ A3 (gA2.add (m := (msgOf t v (kindOf t.phase) q, ms)) (im.ext y2) (gm.mono (by omega)) (fun b hb => ⟨fun _ e => ?_, fun _ e => ?_, fun _ e => ?_, fun _ e => ?_⟩) o3 c3 b3) (by simp [eL]) (by simp; omega) ((xA.trans y12).then c3 fun b hb => (OwnR.blk_ge gA.own hb).1)) (by show t.dealers.length - (i + 1) < t.dealers.length - i; omega)
      · have := gm.hd b e; have := hnb b hb; omega
      · have := gm.de b e; have := hnb b hb; omega
      · have := gm.pa b e; have := hnb b hb; omega
      · have := gm.da b e; have := hnb b hb; omega
  · have hp4 : ¬ t.phase = 4 := hp4
    have hwho : askWho t = t.parts := by unfold askWho; rw [if_neg hp4]
    rw [hwho] at hin ⊢
    have hrow : RowF IV 0 M4 tp t.parts := h.task.parts.row.ext x0M
    have hll : t.parts.length ≤ 1000 := hp
    have hzM := xM.size
    have hz0 := x0M.size
    refine run ?_
    refine Wp.loop (ι := Nat × Sl × List MsgP) (fun i => [(0, ptrD cb), (3, ptrD H1.size), (4, IV (kindOf t.phase)), (6, i.2.1.val), (40, tp.val), (41, I64 t.parts.length), (42, I64 i.1)])
      (fun i A => i.1 ≤ t.parts.length ∧ MsgG A M4.size i.2.1 i.2.2 ∧ i.2.2.map (·.1) = askL t v (t.parts.take i.1) ∧ i.2.2.length ≤ i.1 ∧ Ext M4 A) (fun i => t.parts.length - i.1) (0, Sl.nil, []) subs ⟨Nat.zero_le _, MsgG.nil _ _, rfl, Nat.le_refl _, Ext.refl _⟩ ?_
    rintro ⟨i, a, L⟩ A ⟨hi1, gA, eL, hL, xA⟩
    have hi1 : i ≤ t.parts.length := hi1
    have gA : MsgG A M4.size a L := gA
    have eL : L.map (·.1) = askL t v (t.parts.take i) := eL
    have hL : L.length ≤ i := hL
    have xA : Ext M4 A := xA
    have hrA := hrow.ext xA
    have x0A := x0M.trans xA
    have hA := h.ext hw x0A
    have hbA := hA.blk
    have bA := bM.ext xA
    have mA := hl.map.ext x0A
    have zA := xA.size
    have nx : ∀ (a' : Sl) (L' : List MsgP) (B : Heap), i < t.parts.length → MsgG B M4.size a' L' → L'.map (·.1) = askL t v (t.parts.take i) ++ (if askIs t (t.parts.getD i 0) = true then [msgOf t v (kindOf t.phase) (t.parts.getD i 0)] else []) → L'.length ≤ i + 1 → Ext M4 B → (i + 1 ≤ t.parts.length ∧ MsgG B M4.size a' L' ∧ L'.map (·.1) = askL t v (t.parts.take (i + 1)) ∧ L'.length ≤ i + 1 ∧ Ext M4 B) := by
      intro a' L' B hlt g e hl' x
      exact ⟨hlt, g, by rw [e, take_snoc' 0 hlt, askL_snoc], hl', x⟩
    show Wp _ _ _ [(0, ptrD cb), (3, ptrD H1.size), (4, IV (kindOf t.phase)), (6, a.val), (40, tp.val), (41, I64 t.parts.length), (42, I64 i)] _ _
    refine run ?_
    refine Wp.br (fun hlt => ?_) (fun hlt => ?_)
    case refine_2 =>
      have hlt : ¬ (i : Int) < (t.parts.length : Int) := hlt
      have hie : i = t.parts.length := by omega
      subst hie
      rw [List.take_length] at eL
      refine run ?_
      exact ret1 ⟨a, L, rfl, gA.list, eL, x0A, fun b hb => by have := (OwnR.blk_ge gA.own hb).1; omega, fun j hj => (gA.ge j hj).mono (by omega)⟩
    have hlt : (i : Int) < (t.parts.length : Int) := hlt
    have hit : i < t.parts.length := by omega
    have hmem := hin (t.parts.getD i 0) (by rw [getD_get _ hit]; exact List.getElem_mem _)
    have nx := fun a' L' B => nx a' L' B hit
    refine run ?_
    generalize t.parts.getD i 0 = q at hmem nx ⊢
    obtain ⟨q, rfl⟩ := Int.eq_ofNat_of_zero_le hmem.1
    refine RegS.lookup2 (k := (q : Int)) mA ⟨by omega, by omega⟩ ?_
    rw [hl.some]
    cases hs : (cget t.got (q : Int)).isSome with
    | true =>
      refine run ?_
      have hq : askIs t (q : Int) = false := by simp [askIs, hs, hp4]
      rw [hq] at nx
      exact roundQ_n (i + 1, a, L) subs (nx a L A gA (by simp [eL]) (by omega) xA) (by show t.parts.length - (i + 1) < t.parts.length - i; omega)
    | false =>
      refine run ?_
      have hq : askIs t (q : Int) = true := by simp [askIs, hs]
      rw [if_pos hq] at nx
      refine run ?_
      refine RegS.call (coMessage_ok v c (kindOf t.phase) q (by omega) hfd (hw.ext x0A) hA (iM.ext xA) ⟨by omega, by omega⟩) ?_
      rintro _ A1 ⟨ms, rfl, im, y1, gm⟩
      refine run ?_
      refine RegS.buildOne (e := 0) (cs := msgC (msgOf t v (kindOf t.phase) q) ms) 38 fun A2 b6 y2 z2 => ?_
      have y12 := y1.trans y2
      have gA2 := gA.ext y12
      have hal : a.len = L.length := gA.list.row.len
      have zy := y12.size
      refine run ?_
      refine RegS.appendN gA2.own (r := Sl.fresh A1.size 1) (ys := msgC (msgOf t v (kindOf t.phase) q) ms) rfl (Blk.one b6) (msgC_one _ _) (by omega) ?_ ?_ ?_
      · show (a.len + 1) * _ ≤ _; omega
      · show a.len + 1 ≤ _; omega
      intro a' A3 o3 c3 b3
      have hnb : ∀ b, a.blk = some b → b < A.size := fun b hb => (OwnR.blk_ge gA.own hb).2
      refine run ?_
      refine roundQ_n (i + 1, a', L ++ [(msgOf t v (kindOf t.phase) q, ms)]) subs (nx a' _ A3 (gA2.add (m := (msgOf t v (kindOf t.phase) q, ms)) (im.ext y2) (gm.mono (by omega)) (fun b hb => ⟨fun _ e => ?_, fun _ e => ?_, fun _ e => ?_, fun _ e => ?_⟩) o3 c3 b3) (by simp [eL]) (by simp; omega) ((xA.trans y12).then c3 fun b hb => (OwnR.blk_ge gA.own hb).1)) (by show t.parts.length - (i + 1) < t.parts.length - i; omega)
      · have := gm.hd b e; have := hnb b hb; omega
      · have := gm.de b e; have := hnb b hb; omega
      · have := gm.pa b e; have := hnb b hb; omega
      · have := gm.da b e; have := hnb b hb; omega
end Go.Proofs.YtaikdcnifijcoaaGreat
