/-
  From walks to rows: arguments opened, a law's answer shut.
-/
import Derived.Test.YtaikdcnifijcoaaGreatQ47
import Derived.Test.YtaikdcnifijcoaaGreatQ04
import Derived.Test.YtaikdcnifijcoaaGreatRows
import Derived.ProofKit
import Derived.SizedLaws
import Derived.Deep.Matrix
import Derived.Test.YtaikdcnifijcoaaGreatQ05
import Derived.Deep.Grids
import Derived.Deep.Fields
import Derived.Test.YtaikdcnifijcoaaGreatQ01
import Derived.Test.YtaikdcnifijcoaaGreatQ07
set_option linter.unusedVariables false
set_option linter.unusedSimpArgs false
namespace Go.Proofs.YtaikdcnifijcoaaGreat
open Go Go.Vc Go.Gf
set_option maxHeartbeats 32000000 in
theorem coordBlind_ok (N T K E R : Int) (s : Sl) (l : List OpP) (H : Heap) (ho : OpsL H s l) (hf : ∀ j, j < l.length → MsgFit (l.getD j op0).1.m) (hl : l.length ≤ 1048576) :
    CallsH Tryz.prog 7 [pmI N T K E R, s.val] H (Fine21 H) := by
  refine CallsH.enter h7 Tryz.func7 rfl rfl rfl (by decide) fun u => run ?_
  refine RegS.boxA fun H1 x1 z1 b1 => ?_
  have o1 := ho.ext x1
  refine run ?_
  refine RegS.call (good21_ok N T K E R s l H1 o1 hf hl) ?_
  rintro _ H2 ⟨rfl, x2⟩
  have b2 := b1.ext x2
  have X2 := x1.trans x2
  have o2 := o1.ext x2
  by_cases hg : GoodOps N T K E R l
  case neg =>
    rw [dec_neg hg]
    refine run ?_
    refine RegS.call (out21x X2) ?_
    rintro _ H5 ⟨rfl, e5⟩
    refine run ?_
    exact ret1 ⟨rfl, e5⟩
  rw [dec_pos hg]
  obtain ⟨hgp, hN8, hl100, hnb⟩ := hg
  have hgp2 := hgp
  obtain ⟨N, T, K, E, R, rfl, rfl, rfl, rfl, rfl, hN, hT0, hT, hK, hE⟩ := goodP_nat hgp
  have hK0 : 1 ≤ K := by have := hgp2.2.2.1; omega
  have hd : T + K ≤ 256 := by have h1 := hgp2.2.2.2.2.2.1; have h2 := hgp2.2.2.2.2.2.2; omega
  have b2 : Blk H2 H.size 23 (pmL N T K E R) := b2
  refine run ?_
  refine RegS.call (conew_ok (N := N) (T := T) (K := K) (E := E) (R := R) (wf0 H2)) ?_
  rintro _ H3 ⟨cb, fb, bb, sb, O3, rfl, st3, hc3⟩
  have h3 : CoIs H3 O3 cb fb bb sb N T K E R false (c0 N) taskS0 := ⟨hc3, .inl ⟨rfl, rfl⟩, taskOk0 N⟩
  refine run ?_
  refine Wp.loop (ι := Nat) (fun i => [(1, s.val), (2, ptrD H.size), (5, ptrD cb), (6, I64 i)]) (fun i A => i ≤ l.length ∧ ∃ (OA : Ow) (c : CSt) (ts : TaskS), Step Co H2 (fun _ => 0) A OA ∧ CoIs A OA cb fb bb sb N T K E R false c ts ∧ Rest c.t ts ∧ CInv N T c) (fun i => l.length - i) 0 subs ⟨Nat.zero_le _, O3, c0 N, taskS0, st3.mono fun x e => e.elim, h3, fun hk => absurd rfl hk, ⟨rises_nil rfl, fun hk => absurd rfl hk⟩⟩ ?_
  rintro i A ⟨hi, OA, c, ts, sA, hA, hrA, hiA⟩
  have eA := Step.ext0 sA co0
  have oA := o2.ext eA
  have rA := oA.row
  have bA := b2.ext eA
  refine run ?_
  refine Wp.br (fun hlt => ?_) (fun hlt => ?_)
  case refine_2 =>
    refine run ?_
    refine RegS.call (out21x (X2.trans eA)) ?_
    rintro _ H5 ⟨rfl, e5⟩
    refine run ?_
    exact ret1 ⟨rfl, e5⟩
  have hlt : (i : Int) < (l.length : Int) := hlt
  have hit : i < l.length := by omega
  have hok := hA.ok
  have hfi := hf i hit
  have hmi := oA.msg i hit
  have hxi := oA.dat i hit
  have hx2 := o2.dat i hit
  refine run ?_
  refine Wp.br (fun k1 => ?_) (fun k1 => ?_)
  · refine run ?_
    refine RegS.q (h := Rd.loadPart (off := 2) (j := i) (stepC (l.getD i op0).1.x (l.getD i op0).2.xd) rfl rfl rfl rfl rA hit rfl (op_step _)) ?_
    refine run ?_
    refine RegS.call (coCall_ok (l.getD i op0).1.x (l.getD i op0).2.xd hxi (not_co sA hA.at_.own hx2) hN hT hK hE sA.wf hA hrA (fun _ => hiA.rises)) ?_
    rintro r B ⟨sa, w, L, OB, ts', rfl, ha, hm, hL, stB, hB, hrB⟩
    have kp := keep_call (down := false) (E := E) (x := (l.getD i op0).1.x) hiA hK0
    have hbd : ∀ j, j < L.length → Blind N (L.getD j (msg0, msgS0)).1 := fun j hj => kp.sent _ (by rw [← hL, getD_get _ hj]; exact List.mem_map.2 ⟨_, List.getElem_mem hj, rfl⟩)
    have hLl : L.length ≤ N := by have := kp.few; rw [← hL, List.length_map] at this; exact this
    have kp := kp.inv
    generalize cCall false N T K E (l.getD i op0).1.x c = P at ha hL hB hrB kp
    obtain ⟨a', l', c'⟩ := P
    have hB : CoIs B OB cb fb bb sb N T K E R false c' ts' := hB
    have hrB : Rest c'.t ts' := hrB
    have kp : CInv N T c' := kp
    have sB := sA.trans stB
    refine run ?_
    refine Wp.loop (ι := Nat) (fun j => [(1, s.val), (2, ptrD H.size), (5, ptrD cb), (6, I64 i), (7, w.val), (8, I64 j)]) (fun j A' => j ≤ L.length ∧ A' = B) (fun j => L.length - j) 0 subs ⟨Nat.zero_le _, rfl⟩ ?_
    rintro j _ ⟨hj, rfl⟩
    have hrow := hm.list.row
    have hbB := b2.ext (Step.ext0 sB co0)
    refine run ?_
    refine Wp.br (fun hlj => ?_) (fun hlj => ?_)
    · have hlj : (j : Int) < (L.length : Int) := hlj
      have hjt : j < L.length := by omega
      have hda := (hm.list.each j hjt).da
      have hbl := hbd j hjt
      have hd0 : ¬ ((L.getD j (msg0, msgS0)).1.data.length : Int) > ((0 : Nat) : Int) := by rw [hbl.1]; simp
      have ht0 : ¬ (L.getD j (msg0, msgS0)).1.to < ((0 : Nat) : Int) := by have := hbl.2.1; omega
      have ht1 : ¬ (L.getD j (msg0, msgS0)).1.to ≥ (N : Int) := by have := hbl.2.2; omega
      refine run ?_
      exact roundQ_n (j + 1) subs ⟨by omega, rfl⟩ (by omega)
    have hlj : ¬ (j : Int) < (L.length : Int) := hlj
    refine run ?_
    exact roundQ_n (i + 1) subs ⟨by omega, OB, c', ts', sB, hB, hrB, kp⟩ (by omega)
  refine run ?_
  refine Wp.br (fun k2 => ?_) (fun k2 => ?_)
  · refine run ?_
    refine RegS.q (h := Rd.loadPart (off := 8) (j := i) (msgC (l.getD i op0).1.m (l.getD i op0).2.ms) rfl rfl rfl rfl rA hit rfl (op_msg _)) ?_
    refine run ?_
    refine RegS.call (coHandle_ok (l.getD i op0).1.m (l.getD i op0).2.ms hmi hfi hN hT0 hT hK0 hK hE hd sA.wf hA hrA hiA.rises hiA.task) ?_
    rintro r B ⟨sa, w, L, OB, ts', rfl, ha, hm, hL, stB, hB, hrB⟩
    have kp := keep_handle (down := false) (E := E) (m := (l.getD i op0).1.m) hiA hok hK0
    have hbd : ∀ j, j < L.length → Blind N (L.getD j (msg0, msgS0)).1 := fun j hj => kp.sent _ (by rw [← hL, getD_get _ hj]; exact List.mem_map.2 ⟨_, List.getElem_mem hj, rfl⟩)
    have hLl : L.length ≤ N := by have := kp.few; rw [← hL, List.length_map] at this; exact this
    have kp := kp.inv
    generalize cHandle false N T K E (l.getD i op0).1.m c = P at ha hL hB hrB kp
    obtain ⟨a', l', c'⟩ := P
    have hB : CoIs B OB cb fb bb sb N T K E R false c' ts' := hB
    have hrB : Rest c'.t ts' := hrB
    have kp : CInv N T c' := kp
    have sB := sA.trans stB
    refine run ?_
    refine Wp.loop (ι := Nat) (fun j => [(1, s.val), (2, ptrD H.size), (5, ptrD cb), (6, I64 i), (7, w.val), (8, I64 j)]) (fun j A' => j ≤ L.length ∧ A' = B) (fun j => L.length - j) 0 subs ⟨Nat.zero_le _, rfl⟩ ?_
    rintro j _ ⟨hj, rfl⟩
    have hrow := hm.list.row
    have hbB := b2.ext (Step.ext0 sB co0)
    refine run ?_
    refine Wp.br (fun hlj => ?_) (fun hlj => ?_)
    · have hlj : (j : Int) < (L.length : Int) := hlj
      have hjt : j < L.length := by omega
      have hda := (hm.list.each j hjt).da
      have hbl := hbd j hjt
      have hd0 : ¬ ((L.getD j (msg0, msgS0)).1.data.length : Int) > ((0 : Nat) : Int) := by rw [hbl.1]; simp
      have ht0 : ¬ (L.getD j (msg0, msgS0)).1.to < ((0 : Nat) : Int) := by have := hbl.2.1; omega
      have ht1 : ¬ (L.getD j (msg0, msgS0)).1.to ≥ (N : Int) := by have := hbl.2.2; omega
      refine run ?_
      exact roundQ_n (j + 1) subs ⟨by omega, rfl⟩ (by omega)
    have hlj : ¬ (j : Int) < (L.length : Int) := hlj
    refine run ?_
    exact roundQ_n (i + 1) subs ⟨by omega, OB, c', ts', sB, hB, hrB, kp⟩ (by omega)
  refine run ?_
  refine Wp.br (fun k3 => ?_) (fun k3 => ?_)
  · refine run ?_
    refine RegS.call (coTick_ok hN sA.wf hA hrA) ?_
    rintro r B ⟨w, L, rfl, hm, hL, xB⟩
    have kpt := keep_tick (down := false) hok
    have hbd : ∀ j, j < L.length → Blind N (L.getD j (msg0, msgS0)).1 := fun j hj => kpt _ (by rw [← hL, getD_get _ hj]; exact List.mem_map.2 ⟨_, List.getElem_mem hj, rfl⟩)
    have hLl : L.length ≤ N := by have := tick_few (down := false) hok; rw [← hL, List.length_map] at this; exact this
    have stB : Step (fun _ => False) A OA B OA := xB.step sA.wf
    obtain ⟨OB, rfl⟩ : ∃ OB, OB = OA := ⟨_, rfl⟩
    obtain ⟨c', rfl⟩ : ∃ c', c' = c := ⟨_, rfl⟩
    obtain ⟨ts', rfl⟩ : ∃ ts', ts' = ts := ⟨_, rfl⟩
    have hB := hA.step stB id id id id id
    have hrB := hrA
    have kp := hiA
    have sB := sA.trans (stB.mono fun x e => e.elim)
    refine run ?_
    refine Wp.loop (ι := Nat) (fun j => [(1, s.val), (2, ptrD H.size), (5, ptrD cb), (6, I64 i), (7, w.val), (8, I64 j)]) (fun j A' => j ≤ L.length ∧ A' = B) (fun j => L.length - j) 0 subs ⟨Nat.zero_le _, rfl⟩ ?_
    rintro j _ ⟨hj, rfl⟩
    have hrow := hm.list.row
    have hbB := b2.ext (Step.ext0 sB co0)
    refine run ?_
    refine Wp.br (fun hlj => ?_) (fun hlj => ?_)
    · have hlj : (j : Int) < (L.length : Int) := hlj
      have hjt : j < L.length := by omega
      have hda := (hm.list.each j hjt).da
      have hbl := hbd j hjt
      have hd0 : ¬ ((L.getD j (msg0, msgS0)).1.data.length : Int) > ((0 : Nat) : Int) := by rw [hbl.1]; simp
      have ht0 : ¬ (L.getD j (msg0, msgS0)).1.to < ((0 : Nat) : Int) := by have := hbl.2.1; omega
      have ht1 : ¬ (L.getD j (msg0, msgS0)).1.to ≥ (N : Int) := by have := hbl.2.2; omega
      refine run ?_
      exact roundQ_n (j + 1) subs ⟨by omega, rfl⟩ (by omega)
    have hlj : ¬ (j : Int) < (L.length : Int) := hlj
    refine run ?_
    exact roundQ_n (i + 1) subs ⟨by omega, OB, c', ts', sB, hB, hrB, kp⟩ (by omega)
  refine run ?_
  refine Wp.br (fun k4 => ?_) (fun k4 => ?_)
  · refine run ?_
    refine RegS.call (coGive_ok hN hT0 hT hK0 hK hE hd sA.wf hA hrA hiA.rises) ?_
    rintro r B ⟨sa, w, L, OB, ts', rfl, ha, hm, hL, stB, hB, hrB⟩
    have kp := keep_give (down := false) (E := E) hiA hok hK0
    have hbd : ∀ j, j < L.length → Blind N (L.getD j (msg0, msgS0)).1 := fun j hj => kp.sent _ (by rw [← hL, getD_get _ hj]; exact List.mem_map.2 ⟨_, List.getElem_mem hj, rfl⟩)
    have hLl : L.length ≤ N := by have := kp.few; rw [← hL, List.length_map] at this; exact this
    have kp := kp.inv
    generalize cGive false N T K E c = P at ha hL hB hrB kp
    obtain ⟨a', l', c'⟩ := P
    have hB : CoIs B OB cb fb bb sb N T K E R false c' ts' := hB
    have hrB : Rest c'.t ts' := hrB
    have kp : CInv N T c' := kp
    have sB := sA.trans stB
    refine run ?_
    refine Wp.loop (ι := Nat) (fun j => [(1, s.val), (2, ptrD H.size), (5, ptrD cb), (6, I64 i), (7, w.val), (8, I64 j)]) (fun j A' => j ≤ L.length ∧ A' = B) (fun j => L.length - j) 0 subs ⟨Nat.zero_le _, rfl⟩ ?_
    rintro j _ ⟨hj, rfl⟩
    have hrow := hm.list.row
    have hbB := b2.ext (Step.ext0 sB co0)
    refine run ?_
    refine Wp.br (fun hlj => ?_) (fun hlj => ?_)
    · have hlj : (j : Int) < (L.length : Int) := hlj
      have hjt : j < L.length := by omega
      have hda := (hm.list.each j hjt).da
      have hbl := hbd j hjt
      have hd0 : ¬ ((L.getD j (msg0, msgS0)).1.data.length : Int) > ((0 : Nat) : Int) := by rw [hbl.1]; simp
      have ht0 : ¬ (L.getD j (msg0, msgS0)).1.to < ((0 : Nat) : Int) := by have := hbl.2.1; omega
      have ht1 : ¬ (L.getD j (msg0, msgS0)).1.to ≥ (N : Int) := by have := hbl.2.2; omega
      refine run ?_
      exact roundQ_n (j + 1) subs ⟨by omega, rfl⟩ (by omega)
    have hlj : ¬ (j : Int) < (L.length : Int) := hlj
    refine run ?_
    exact roundQ_n (i + 1) subs ⟨by omega, OB, c', ts', sB, hB, hrB, kp⟩ (by omega)
  obtain ⟨B, rfl⟩ : ∃ B, B = A := ⟨_, rfl⟩
  obtain ⟨OB, rfl⟩ : ∃ OB, OB = OA := ⟨_, rfl⟩
  obtain ⟨c', rfl⟩ : ∃ c', c' = c := ⟨_, rfl⟩
  obtain ⟨ts', rfl⟩ : ∃ ts', ts' = ts := ⟨_, rfl⟩
  have hB := hA
  have hrB := hrA
  have kp := hiA
  have sB := sA
  obtain ⟨w, hw⟩ : ∃ w, w = Sl.nil := ⟨_, rfl⟩
  obtain ⟨L, hL⟩ : ∃ L : List MsgP, L = [] := ⟨_, rfl⟩
  have hLl : L.length ≤ N := by rw [hL]; exact Nat.zero_le _
  have hm : MsgRo B OB w L := by rw [hw, hL]; exact MsgRo.nil _ _
  have hbd : ∀ j, j < L.length → Blind N (L.getD j (msg0, msgS0)).1 := fun j hj => by rw [hL] at hj; exact absurd hj (by simp)
  rw [show (Sl.nil.val : Value) = w.val by rw [hw]]
  refine run ?_
  refine Wp.loop (ι := Nat) (fun j => [(1, s.val), (2, ptrD H.size), (5, ptrD cb), (6, I64 i), (7, w.val), (8, I64 j)]) (fun j A' => j ≤ L.length ∧ A' = B) (fun j => L.length - j) 0 subs ⟨Nat.zero_le _, rfl⟩ ?_
  rintro j _ ⟨hj, rfl⟩
  have hrow := hm.list.row
  have hbB := b2.ext (Step.ext0 sB co0)
  refine run ?_
  refine Wp.br (fun hlj => ?_) (fun hlj => ?_)
  · have hlj : (j : Int) < (L.length : Int) := hlj
    have hjt : j < L.length := by omega
    have hda := (hm.list.each j hjt).da
    have hbl := hbd j hjt
    have hd0 : ¬ ((L.getD j (msg0, msgS0)).1.data.length : Int) > ((0 : Nat) : Int) := by rw [hbl.1]; simp
    have ht0 : ¬ (L.getD j (msg0, msgS0)).1.to < ((0 : Nat) : Int) := by have := hbl.2.1; omega
    have ht1 : ¬ (L.getD j (msg0, msgS0)).1.to ≥ (N : Int) := by have := hbl.2.2; omega
    refine run ?_
    exact roundQ_n (j + 1) subs ⟨by omega, rfl⟩ (by omega)
  have hlj : ¬ (j : Int) < (L.length : Int) := hlj
  refine run ?_
  exact roundQ_n (i + 1) subs ⟨by omega, OB, c', ts', sB, hB, hrB, kp⟩ (by omega)
end Go.Proofs.YtaikdcnifijcoaaGreat
set_option linter.unusedVariables false
set_option linter.unusedSimpArgs false
namespace Go.Vc
open Go.ChangeShapes Go.WideShapes Go.ChangeAt Go.RowKit
theorem Ext.below {w w' : World} (s : Sim w w') (e : Ext w.heap w'.heap) : Below w.heap.size w w' := ⟨s.os, s.tape, s.output, e.size, fun k hk => e.get k hk⟩
theorem trodAll_below {H : Type} {enc : TypeId × Value → H} {P : Program} (hl : laidOutB P = true) {W W' : World} (hb : Below W.heap.size W W') :
    ∀ {ts : List TypeId} {vs : List Value} {ds : List (DataW H)} {ps : List MemPlace}, (∀ t ∈ ts, P.readableRec t = true ∧ t < P.types.size) → DataW.TrodAll enc P W 0 (fun _ => true) true ts vs ds ps → (∀ x ∈ ps, x.block < W.heap.size) →
      DataW.TrodAll enc P W' 0 (fun b => decide (b < W.heap.size)) true ts vs ds ps
  | [], [], [], _, _, h, _ => h
  | t :: ts, v :: vs, d :: ds, ps, ht, ⟨p, q, h1, h2, e⟩, hlt => by
    subst e
    exact ⟨p, q, Below.trod hl (ht t List.mem_cons_self).1 (ht t List.mem_cons_self).2 h1 hb fun x hx => hlt x (List.mem_append_left _ hx),
      trodAll_below hl hb (fun u hu => ht u (List.mem_cons_of_mem _ hu)) h2 fun x hx => hlt x (List.mem_append_right _ hx), rfl⟩
/-- A whole number that came in. -/
theorem int_of {n : Int} (h : (Lit.int .i64 n).wf = true) : -9223372036854775808 ≤ n ∧ n ≤ 9223372036854775807 := by
  simp [Lit.wf, IntKind.min, IntKind.max, IntKind.signed, IntKind.bits] at h
  omega
/-- What a law owes at its return. -/
theorem law_post {H : Type} {enc : TypeId × Value → H} {P : Program} {f : Func} {s : ChangeSpec} {W W' : World} {args : Array Value} {ds gs : List (DataW H)} {before : List MemPlace} {p : List MemPlace} {b : Nat}
    (hl : laidOutB P = true) (hread : ∀ t ∈ f.params.toList, P.readableRec t = true ∧ t < P.types.size) (hbool : P.underlying b = some .bool) (hrt : f.resultTypes = #[b])
    (hW : DataW.Whole enc P f.params.toList s.vars false W args.toList ds gs before) (hA : DataW.TrodAll enc P W 0 (fun _ => true) true f.params.toList args.toList ds p) (hbp : before = p ++ [])
    (hnx : Below W.heap.size W W') (hr : (s.fn H (ds ++ gs)).results = [.lit (.bool true)]) (ha : (s.fn H (ds ++ gs)).args = ds) (hv : (s.fn H (ds ++ gs)).vars = []) (hsv : s.vars = []) :
    s.post enc P f false true false false W args (.bool true) W' := by
  subst hbp
  have hlt : ∀ x ∈ p, x.block < W.heap.size := fun x hx => by simpa using hW.lt x (List.mem_append_left _ hx)
  refine ⟨_, _, _, [], p ++ [], [], hW, ?_, ?_, ?_, hnx.frame _, fun h => by cases h⟩
  · rw [hr, hrt]
    exact trodAll_mk1 (shut_bool hbool true)
  · rw [ha, List.append_nil]
    exact trodAll_below hl hnx hread hA hlt
  · rw [hv, hsv]; rfl
/-- A byte that came in. -/
theorem byte_of {n : Int} (h : (Lit.int .u8 n).wf = true) : ∃ x : UInt8, n = (x.toNat : Int) := by
  have hw : 0 ≤ n ∧ n < 256 := by
    simp [Lit.wf, IntKind.min, IntKind.max, IntKind.signed, IntKind.bits] at h
    omega
  refine ⟨UInt8.ofNat n.toNat, ?_⟩
  simp [UInt8.toNat_ofNat']
  omega
end Go.Vc
set_option linter.unusedVariables false
set_option linter.unusedSimpArgs false
set_option linter.unusedVariables false
set_option linter.unusedSimpArgs false
namespace Go.Vc
open Go.ChangeShapes Go.WideShapes Go.ChangeAt Go.RowKit Go.Proofs.YtaikdcnifijcoaaGreat
/-- Five numbers that came in, as a struct. -/
theorem open_five {H : Type} {enc : TypeId × Value → H} {P : Program} {W : World} {r : Reach} {base t : Nat} {v : Value} {d : DataW H} {ps : List MemPlace} {fs : Array Field} (hu : P.underlying t = some (.struct fs)) (hc : P.cellsOf t = 5)
    (hone : ∀ (i : Nat) (f : Field), fs[i]? = some f → f.offset = i ∧ P.cellsOf f.type = 1) (hn : fs.size = 5) (hi : ∀ (i : Nat) (f : Field), fs[i]? = some f → P.underlying f.type = some (.int .i64))
    (hv : Value.okWide P W r base t v) (h : DataW.Trod enc P W 0 (fun _ => true) true t v d ps) :
    ∃ N T K E R : Int, v = .agg #[.int .i64 N, .int .i64 T, .int .i64 K, .int .i64 E, .int .i64 R] ∧ ∀ x ∈ [N, T, K, E, R], -9223372036854775808 ≤ x ∧ x ≤ 9223372036854775807 := by
  simp only [Value.okWide, hu] at hv
  obtain ⟨cs, rfl, hsz, _⟩ := hv
  obtain ⟨fuel, hf⟩ := h
  obtain ⟨xs, n, _, _, hl, hxl, hfld⟩ := DataW.trod_struct hu hf
  rw [hc] at hsz
  have each : ∀ i, i < 5 → ∃ z : Int, cs.toList[i]? = some (.int .i64 z) ∧ -9223372036854775808 ≤ z ∧ z ≤ 9223372036854775807 := by
    intro i hi5
    have hfi : fs[i]? = some fs[i] := Array.getElem?_eq_getElem (by omega)
    obtain ⟨ho, hc1⟩ := hone i _ hfi
    have g := hfld i _ hfi
    have hcl : (Value.agg cs).cells.toList = cs.toList := rfl
    have hlen : cs.toList.length = 5 := by simpa using hsz
    rw [ho, hc1, hcl, Go.Deep.take1_drop cs.toList i undef (by omega), List.getElem?_eq_getElem (by omega)] at g
    obtain ⟨z, e1, e2, e3⟩ := DataW.trod_int (hi i _ hfi) g
    simp only [List.cons.injEq, and_true] at e1
    refine ⟨z, ?_, int_of e3⟩
    rw [← e1]
    simp [List.getD_eq_getElem?_getD, List.getElem?_eq_getElem (show i < cs.toList.length by omega)]
  obtain ⟨N, a0, b0⟩ := each 0 (by omega)
  obtain ⟨T, a1, b1⟩ := each 1 (by omega)
  obtain ⟨K, a2, b2⟩ := each 2 (by omega)
  obtain ⟨E, a3, b3⟩ := each 3 (by omega)
  obtain ⟨R, a4, b4⟩ := each 4 (by omega)
  refine ⟨N, T, K, E, R, ?_, fun x hx => ?_⟩
  · congr 1
    apply Array.ext'
    have hlen : cs.toList.length = 5 := by simpa using hsz
    refine List.ext_getElem? fun i => ?_
    match i with
    | 0 => rw [a0]; rfl
    | 1 => rw [a1]; rfl
    | 2 => rw [a2]; rfl
    | 3 => rw [a3]; rfl
    | 4 => rw [a4]; rfl
    | n + 5 => rw [List.getElem?_eq_none (by omega)]; rfl
  · simp only [List.mem_cons, List.not_mem_nil, or_false] at hx
    rcases hx with rfl | rfl | rfl | rfl | rfl <;> assumption
end Go.Vc
