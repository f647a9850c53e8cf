/-
  The walks of package coord: start, and a call.
-/
import Derived.Test.YtaikdcnifijcoaaGreatQ32
import Derived.Test.YtaikdcnifijcoaaGreatQ23
set_option linter.unusedVariables false
set_option linter.unusedSimpArgs false
namespace Go.Proofs.YtaikdcnifijcoaaGreat
open Go Go.Vc Go.Gf
section
variable {S : Nat → Prop} {H H' A B : Heap} {O O' OA : Ow} {cb fb bb sb N T K E R : Nat} {down : Bool} {c : CSt} {ts : TaskS}
theorem w0 {X Y : Heap} {P Q : Ow} {k9 : Nat} (h : Step (fun _ => False) X P Y Q) : Step (fun x => Co x ∨ x = k9) X P Y Q := h.mono fun x e => e.elim
theorem wC {X Y : Heap} {P Q : Ow} {k9 : Nat} (h : Step Co X P Y Q) : Step (fun x => Co x ∨ x = k9) X P Y Q := h.mono fun x e => .inl e
set_option maxHeartbeats 4000000 in
theorem coEnough_ok (least : Nat) (phase sort target : Int) (w : Sl) (l : List Int) (hn : N ≤ 255) (hw : WfO H O) (h : CoIs H O cb fb bb sb N T K E R down c ts) (hl : RoF IV 0 H O w l) (hin : InN N l) (hp : 1 ≤ phase ∧ phase ≤ 3) (hq4 : sort = 4 → ts.queue = Sl.nil) :
    CallsH Tryz.prog 135 [ptrD cb, I64 least, IV phase, IV sort, IV target, w.val] H (OutR H O cb fb bb sb N T K E R down (cEnough down least phase sort target l c)) := by
  refine CallsH.enter h135 Tryz.func135 rfl rfl rfl (by decide) fun u => run ?_
  refine RegS.allocA fun H1 x1 z1 b1 => ?_
  have b1 : Blk H1 H.size 51 (ansC ans0 ansS0) := b1
  obtain ⟨k9, O1, hk9, hno, st1, ho⟩ := cell_new hw x1 z1
  have h1 := h.step st1 id id id id id
  have hb1 := h1.at_.blk
  have s1 : Step (fun x => Co x ∨ x = k9) H O H1 O1 := w0 st1
  have hl1 := hl.step st1 id
  have hr1 := hl1.row
  refine run ?_
  refine Wp.br (fun hlt => ?_) (fun hlt => ?_)
  · have hlt : (l.length : Int) < (least : Int) := hlt
    rw [cEnough, if_pos (by omega)]
    refine run ?_
    refine RegS.call (coEndR_ok (e := 5) st1.wf h1) ?_
    rintro r B hr
    obtain ⟨sa, w', rfl, kB, b4, hout⟩ := OutR.close s1 hno hr b1 ho hk9 rfl
    refine run ?_
    refine RegS.storeA (us := ansC (cEnd 5 c).1 sa) kB ?_
    generalize hsets B H.size 0 (ansC (cEnd 5 c).1 sa) = B4 at b4 hout ⊢
    refine run ?_
    exact retcA b4 hout
  · have hlt : ¬ (l.length : Int) < (least : Int) := hlt
    rw [cEnough, if_neg (by omega)]
    refine run ?_
    refine RegS.call (coBegin_ok phase sort target w l hn st1.wf h1 hl1 hin hp hq4) ?_
    rintro r B hr
    obtain ⟨sa, w', rfl, kB, b4, hout⟩ := OutR.close s1 hno hr b1 ho hk9 rfl
    refine run ?_
    refine RegS.storeA (us := ansC (cBegin down phase sort target l c).1 sa) kB ?_
    generalize hsets B H.size 0 (ansC (cBegin down phase sort target l c).1 sa) = B4 at b4 hout ⊢
    refine run ?_
    exact retcA b4 hout
set_option maxHeartbeats 4000000 in
theorem coRecover_ok (target : Int) (hi : -9223372036854775808 ≤ target ∧ target ≤ 9223372036854775807) (hn : N ≤ 255) (hT : T ≤ 255) (hK : K ≤ 255) (hE : E ≤ 255) (hw : WfO H O) (h : CoIs H O cb fb bb sb N T K E R down c ts) :
    CallsH Tryz.prog 137 [ptrD cb, IV target] H (OutR H O cb fb bb sb N T K E R down (cRecover down N (T + K + E) target c)) := by
  refine CallsH.enter h137 Tryz.func137 rfl rfl rfl (by decide) fun u => run ?_
  refine RegS.allocA fun H1 x1 z1 b1 => ?_
  have b1 : Blk H1 H.size 51 (ansC ans0 ansS0) := b1
  obtain ⟨k9, O1, hk9, hno, st1, ho⟩ := cell_new hw x1 z1
  have h1 := h.step st1 id id id id id
  have hb1 := h1.at_.blk
  have s1 : Step (fun x => Co x ∨ x = k9) H O H1 O1 := w0 st1
  refine run ?_
  refine RegS.call (co_m_ok h1.at_ hT hK hE) ?_
  rintro _ _ ⟨rfl, rfl⟩
  refine run ?_
  refine RegS.call (coUp_ok c.v target hi hn st1.wf h1.at_ h1.is) ?_
  rintro _ H2 ⟨w, rfl, hwr, x2, gw⟩
  have st2 : Step (fun _ => False) H1 O1 H2 O1 := x2.step st1.wf
  have h2 := h1.step st2 id id id id id
  have s2 := s1.trans (w0 st2)
  have b2 := b1.ext x2
  have hl2 : RoF IV 0 H2 O1 w (upL c.v.up target N) := RoF.new hwr st1.wf gw
  rw [cRecover]
  refine run ?_
  refine RegS.call (coEnough_ok (T + K + E) 3 3 target w _ hn st2.wf h2 hl2 (upL_in _ _ _) (by omega) (fun e => absurd e (by decide))) ?_
  rintro r B hr
  obtain ⟨sa, w', rfl, kB, b4, hout⟩ := OutR.close s2 hno hr b2 ho hk9 rfl
  refine run ?_
  refine RegS.storeA (us := ansC (cEnough down (T + K + E) 3 3 target (upL c.v.up target N) c).1 sa) kB ?_
  generalize hsets B H.size 0 (ansC (cEnough down (T + K + E) 3 3 target (upL c.v.up target N) c).1 sa) = B4 at b4 hout ⊢
  refine run ?_
  exact retcA b4 hout
/-- An object's head. -/
def cFind (dir : List HdT) (id : List UInt8) : Option HdT := dir.find? fun h => decide (h.1 = id)
theorem cFind_nth (id : List UInt8) : ∀ (dir : List HdT) (j : Nat), j < dir.length → (dir.getD j ([], 0)).1 = id → (∀ k, k < j → (dir.getD k ([], 0)).1 ≠ id) → cFind dir id = some (dir.getD j ([], 0))
  | [], j, hj, _, _ => by simp at hj
  | a :: dir, 0, _, hid, _ => by rw [cFind, List.find?_cons_of_pos (by simpa using hid)]; rfl
  | a :: dir, j + 1, hj, hid, hne => by
    have h0 := hne 0 (by omega)
    rw [cFind, List.find?_cons_of_neg (by simpa using h0)]
    exact cFind_nth id dir j (by simpa using hj) (by simpa using hid) fun k hk => by simpa using hne (k + 1) (by omega)
theorem cFind_at {dir : List HdT} {id : List UInt8} {i : Int} (h : AtR dir id i) : (i < 0 → cFind dir id = none) ∧ (0 ≤ i → cFind dir id = some (dir.getD i.toNat ([], 0))) := by
  rcases h with ⟨j, rfl, hj, hid, hne⟩ | ⟨rfl, hne⟩
  · exact ⟨fun h => by omega, fun _ => cFind_nth id dir j hj hid hne⟩
  · refine ⟨fun _ => ?_, fun h => by omega⟩
    rw [cFind, List.find?_eq_none]
    intro x hx
    obtain ⟨k, hk, rfl⟩ := List.mem_iff_getElem.1 hx
    have := hne k hk
    rw [getD_get _ hk] at this
    simpa using this
def cPut (down : Bool) (N q : Nat) (x : StepA) (c : CSt) : COut :=
  if x.id.length < 1 ∨ 16 < x.id.length then cEnd 1 c else if 256 < x.data.length then cEnd 8 c else if (cFind c.v.dir x.id).isSome = true then cEnd 9 c else if 8 ≤ c.v.dir.length then cEnd 7 c else
  cEnough down q 1 0 0 (upL c.v.up (-1) N) { c with t := { c.t with head := (x.id, (x.data.length : Int)) } }
set_option maxHeartbeats 8000000 in
theorem coPut_ok (x : StepA) (sd : Sl) (hx : Bytes H sd x.data) (hn : N ≤ 255) (hT : T ≤ 255) (hK : K ≤ 255) (hE : E ≤ 255) (hw : WfO H O) (h : CoIs H O cb fb bb sb N T K E R down c ts) :
    CallsH Tryz.prog 132 [ptrD cb, .agg (stepC x sd).toArray] H (OutR H O cb fb bb sb N T K E R down (cPut down N (T + K + E + E) x c)) := by
  have h0 := h
  have hw0 := hw
  refine CallsH.enter h132 Tryz.func132 rfl rfl rfl (by decide) fun u => run ?_
  refine RegS.boxA fun H0 x0 z0 b0 => ?_
  have b0 : Blk H0 H.size 47 (stepC x sd) := b0
  have s0 : Step (fun _ => False) H O H0 O := x0.step hw
  refine run ?_
  refine RegS.allocA fun H1 x1 z1 b1 => ?_
  have b1 : Blk H1 H0.size 51 (ansC ans0 ansS0) := b1
  obtain ⟨k9, O1, hk9, hno0, st1, ho⟩ := cell_new s0.wf x1 z1
  have hno : ∀ b, b < H.size → O b ≠ k9 := fun b hb => hno0 b (by omega)
  have h1 := (h.step s0 id id id id id).step st1 id id id id id
  have s1 : Step (fun x => Co x ∨ x = k9) H O H1 O1 := (w0 s0).trans (w0 st1)
  have p1 := b0.ext x1
  have d1 := Bytes.ext hx (x0.trans x1)
  refine run ?_
  refine RegS.call (coFind_ok c.v x.id hn st1.wf h1.at_ h1.is) ?_
  rintro r H2 ⟨⟨i, hat, hr0, hr1⟩, x2⟩
  have st2 : Step (fun _ => False) H1 O1 H2 O1 := x2.step st1.wf
  have h2 := h1.step st2 id id id id id
  have s2 := s1.trans (w0 st2)
  have b2 := b1.ext x2
  have p2 := p1.ext x2
  have d2 := Bytes.ext d1 x2
  obtain ⟨f0, f1⟩ := cFind_at hat
  obtain ⟨hd, ok, rfl, hok⟩ : ∃ (hd : HdT) (ok : Bool), r = .tuple #[hdA hd, .bool ok] ∧ (cFind c.v.dir x.id).isSome = ok := by
    by_cases hi : i < 0
    · exact ⟨_, _, hr0 hi, by rw [f0 hi]; rfl⟩
    · exact ⟨_, _, hr1 (by omega), by rw [f1 (by omega)]; rfl⟩
  have hfd := h.is.fit.dir
  refine run ?_
  refine RegS.allocA fun H3 x3 z3 b3 => ?_
  have b3 : Blk H3 H2.size 79 [S [], IV 0] := b3
  refine run ?_
  refine RegS.storeA (us := [S hd.1, IV hd.2]) b3 ?_
  obtain ⟨e3, x4⟩ := Blk.lay [S hd.1, IV hd.2] b3 x3 (Nat.le_refl _) rfl
  generalize hsets H3 H2.size 0 [S hd.1, IV hd.2] = H4 at e3 x4 ⊢
  have st4 : Step (fun _ => False) H2 O1 H4 O1 := x4.step st2.wf
  have h4 := h2.step st4 id id id id id
  have s4 := s2.trans (w0 st4)
  have b4' := b2.ext x4
  have p4 := p2.ext x4
  have d4 := Bytes.ext d2 x4
  have hb4 := h4.at_.blk
  have el : ((x.id.length : Nat) : Int) < ((1 : Nat) : Int) ↔ x.id.length < 1 := by omega
  refine run ?_
  refine RegS.q (h := Rd.lenS rfl rfl rfl rfl) ?_
  refine run ?_
  refine RegS.sp (fun h1 => ?_) (fun h1 => ?_) <;> refine run ?_
  · have h1 : (x.id.length : Int) < ((1 : Nat) : Int) := h1
    rw [cPut, if_pos (.inl (by omega))]
    refine RegS.call (coEndR_ok (e := 1) st4.wf h4) ?_
    rintro r B hr
    obtain ⟨sa, w', rfl, kB, b5, hout⟩ := OutR.close s4 hno hr b4' ho hk9 rfl
    refine run ?_
    refine RegS.storeA (us := ansC (cEnd 1 c).1 sa) kB ?_
    generalize hsets B H0.size 0 (ansC (cEnd 1 c).1 sa) = B5 at b5 hout ⊢
    refine run ?_
    exact retcA b5 hout
  have h1 : ¬ (x.id.length : Int) < ((1 : Nat) : Int) := h1
  refine RegS.q (h := Rd.lenS rfl rfl rfl rfl) ?_
  refine run ?_
  refine Wp.br (fun h2 => ?_) (fun h2 => ?_)
  · have h2 : (x.id.length : Int) > ((16 : Nat) : Int) := h2
    rw [cPut, if_pos (.inr (by omega))]
    refine run ?_
    refine RegS.call (coEndR_ok (e := 1) st4.wf h4) ?_
    rintro r B hr
    obtain ⟨sa, w', rfl, kB, b5, hout⟩ := OutR.close s4 hno hr b4' ho hk9 rfl
    refine run ?_
    refine RegS.storeA (us := ansC (cEnd 1 c).1 sa) kB ?_
    generalize hsets B H0.size 0 (ansC (cEnd 1 c).1 sa) = B5 at b5 hout ⊢
    refine run ?_
    exact retcA b5 hout
  have h2 : ¬ (x.id.length : Int) > ((16 : Nat) : Int) := h2
  rw [cPut, if_neg (by omega)]
  refine run ?_
  refine Wp.br (fun h3 => ?_) (fun h3 => ?_)
  · have h3 : (x.data.length : Int) > ((256 : Nat) : Int) := h3
    rw [if_pos (by omega)]
    refine run ?_
    refine RegS.call (coEndR_ok (e := 8) st4.wf h4) ?_
    rintro r B hr
    obtain ⟨sa, w', rfl, kB, b5, hout⟩ := OutR.close s4 hno hr b4' ho hk9 rfl
    refine run ?_
    refine RegS.storeA (us := ansC (cEnd 8 c).1 sa) kB ?_
    generalize hsets B H0.size 0 (ansC (cEnd 8 c).1 sa) = B5 at b5 hout ⊢
    refine run ?_
    exact retcA b5 hout
  have h3 : ¬ (x.data.length : Int) > ((256 : Nat) : Int) := h3
  rw [if_neg (by omega), hok]
  refine run ?_
  refine Wp.brB (fun h5 => ?_) (fun h5 => ?_)
  · subst h5
    rw [if_pos rfl]
    refine run ?_
    refine RegS.call (coEndR_ok (e := 9) st4.wf h4) ?_
    rintro r B hr
    obtain ⟨sa, w', rfl, kB, b5, hout⟩ := OutR.close s4 hno hr b4' ho hk9 rfl
    refine run ?_
    refine RegS.storeA (us := ansC (cEnd 9 c).1 sa) kB ?_
    generalize hsets B H0.size 0 (ansC (cEnd 9 c).1 sa) = B5 at b5 hout ⊢
    refine run ?_
    exact retcA b5 hout
  subst h5
  rw [if_neg (by simp)]
  refine run ?_
  refine RegS.call (view_ok c.v hn st4.wf h4.at_.book h4.is) ?_
  rintro _ H5 ⟨k, rfl, hk, x5, g1, g2, g3, nw⟩
  have st5 : Step (fun _ => False) H4 O1 H5 O1 := x5.step st4.wf
  have h5 := h4.step st5 id id id id id
  have s5 := s4.trans (w0 st5)
  have b5' := b4'.ext x5
  have p5 := p4.ext x5
  have d5 := Bytes.ext d4 x5
  have hb5 := h5.at_.blk
  have hkd := hk.dir
  have lt1 := b1.lt
  refine run ?_
  refine Wp.br (fun h6 => ?_) (fun h6 => ?_)
  · have h6 : (c.v.dir.length : Int) ≥ ((8 : Nat) : Int) := h6
    rw [if_pos (by omega)]
    refine run ?_
    refine RegS.call (coEndR_ok (e := 7) st5.wf h5) ?_
    rintro r B hr
    obtain ⟨sa, w', rfl, kB, b5, hout⟩ := OutR.close s5 hno hr b5' ho hk9 rfl
    refine run ?_
    refine RegS.storeA (us := ansC (cEnd 7 c).1 sa) kB ?_
    generalize hsets B H0.size 0 (ansC (cEnd 7 c).1 sa) = B5 at b5 hout ⊢
    refine run ?_
    exact retcA b5 hout
  have h6 : ¬ (c.v.dir.length : Int) ≥ ((8 : Nat) : Int) := h6
  rw [if_neg (by omega)]
  refine run ?_
  refine RegS.storeA (us := [S x.id, I64 x.data.length]) hb5 ?_
  have c6 := hsets_chg cb [S x.id, I64 x.data.length] 12 H5
  have b6 : Blk (hsets H5 cb 12 [S x.id, I64 x.data.length]) cb 122 (coordC N T K E R fb bb { c.t with head := (x.id, (x.data.length : Int)) } ts) := Blk.sets [S x.id, I64 x.data.length] 12 hb5
  have ht5 := h5.at_.task
  obtain ⟨h6, st6⟩ := h5.at_.turn (t' := { c.t with head := (x.id, (x.data.length : Int)) }) (ts' := ts) st5.wf c6 b6 ⟨ht5.parts, ht5.dealers, ht5.list, ht5.queue, ht5.got⟩
  have k6 := b5'.step st6 (by omega)
  generalize hsets H5 cb 12 [S x.id, I64 x.data.length] = H6 at c6 b6 h6 st6 k6 ⊢
  have h6 : CoIs H6 O1 cb fb bb sb N T K E R down { c with t := { c.t with head := (x.id, (x.data.length : Int)) } } ts := ⟨h6, h5.is, ⟨h5.ok.phase, h5.ok.parts, h5.ok.dealers, h5.ok.queue, h5.ok.got, h5.ok.keys⟩⟩
  have s6 := s5.trans (wC (st6.mono fun x e => by subst e; exact ⟨by omega, by omega⟩))
  refine run ?_
  refine RegS.call (co_q_ok h6.at_ hT hK hE) ?_
  rintro _ _ ⟨rfl, rfl⟩
  refine run ?_
  refine RegS.call (coUp_ok c.v (-1) (by omega) hn st6.wf h6.at_ h6.is) ?_
  rintro _ H7 ⟨w, rfl, hwr, x7, gw⟩
  have st7 : Step (fun _ => False) H6 O1 H7 O1 := x7.step st6.wf
  have h7 := h6.step st7 id id id id id
  have s7 := s6.trans (w0 st7)
  have k7 := k6.ext x7
  have hl7 : RoF IV 0 H7 O1 w (upL c.v.up (-1) N) := RoF.new hwr st6.wf gw
  refine run ?_
  refine RegS.call (coEnough_ok (T + K + E + E) 1 0 0 w _ hn st7.wf h7 hl7 (upL_in _ _ _) (by omega) (fun e => absurd e (by decide))) ?_
  rintro r B hr
  obtain ⟨sa, w', rfl, kB, b9, hout⟩ := OutR.close s7 hno hr k7 ho hk9 rfl
  refine run ?_
  refine RegS.storeA (us := ansC (cEnough down (T + K + E + E) 1 0 0 (upL c.v.up (-1) N) { c with t := { c.t with head := (x.id, (x.data.length : Int)) } }).1 sa) kB ?_
  generalize hsets B H0.size 0 (ansC (cEnough down (T + K + E + E) 1 0 0 (upL c.v.up (-1) N) { c with t := { c.t with head := (x.id, (x.data.length : Int)) } }).1 sa) = B9 at b9 hout ⊢
  refine run ?_
  exact retcA b9 hout
end
end Go.Proofs.YtaikdcnifijcoaaGreat
set_option linter.unusedVariables false
set_option linter.unusedSimpArgs false
namespace Go.Proofs.YtaikdcnifijcoaaGreat
open Go Go.Vc Go.Gf
section
variable {S : Nat → Prop} {H H' A B : Heap} {O O' OA : Ow} {cb fb bb sb N T K E R : Nat} {down : Bool} {c : CSt} {ts : TaskS}
def cMark (down : Bool) (l : List Int) (c : CSt) : CSt := ⟨(markA down c.s c.v l).1, bkV down c.s c.v (markV c.v l) 0, c.t⟩
def cHead (h : HdT) (c : CSt) : CSt := { c with t := { c.t with head := h } }
def cStart (down : Bool) (N T K E : Nat) (x : StepA) (c : CSt) : COut :=
  if x.kind = 1 then cPut down N (T + K + E + E) x c else
  if x.kind = 2 then (match cFind c.v.dir x.id with
    | none => cEnd 10 c
    | some h => cBegin down 2 0 0 (upL c.v.up (-1) N) (cHead h c)) else
  if x.kind = 5 then (if 1048576 ≤ c.v.epoch then cEnd 11 c else cEnough down (T + K + E + E) 3 2 0 (upL c.v.up (-1) N) c) else
  if x.kind = 6 then cEnough down (T + K + E) 3 4 0 (upL c.v.up (-1) N) c else
  if x.a < 0 ∨ (N : Int) ≤ x.a then cEnd 1 c else
  if (markA down c.s c.v [x.a]).2 ≠ 0 then cEnd ((markA down c.s c.v [x.a]).2 : Nat) (cMark down [x.a] c) else cRecover down N (T + K + E) x.a (cMark down [x.a] c)
set_option maxHeartbeats 8000000 in
theorem coStart_ok (x : StepA) (sd : Sl) (hx : Bytes H sd x.data) (hn : N ≤ 255) (hT : T ≤ 255) (hK : K ≤ 255) (hE : E ≤ 255) (hw : WfO H O) (h : CoIs H O cb fb bb sb N T K E R down c ts) (hqn : ts.queue = Sl.nil) :
    CallsH Tryz.prog 69 [ptrD cb, .agg (stepC x sd).toArray] H (OutR H O cb fb bb sb N T K E R down (cStart down N T K E x c)) := by
  refine CallsH.enter h69 Tryz.func69 rfl rfl rfl (by decide) fun u => run ?_
  refine RegS.boxA fun H0 x0 z0 b0 => ?_
  have b0 : Blk H0 H.size 47 (stepC x sd) := b0
  have s0 : Step (fun _ => False) H O H0 O := x0.step hw
  refine run ?_
  refine RegS.allocA fun H1 x1 z1 b1 => ?_
  have b1 : Blk H1 H0.size 51 (ansC ans0 ansS0) := b1
  obtain ⟨k9, O1, hk9, hno0, st1, ho⟩ := cell_new s0.wf x1 z1
  have hno : ∀ b, b < H.size → O b ≠ k9 := fun b hb => hno0 b (by omega)
  have h1 := (h.step s0 id id id id id).step st1 id id id id id
  have s1 : Step (fun x => Co x ∨ x = k9) H O H1 O1 := (w0 s0).trans (w0 st1)
  have p1 := b0.ext x1
  have d1 := Bytes.ext hx (x0.trans x1)
  have hb1 := h1.at_.blk
  have lt1 := b1.lt
  refine run ?_
  refine Wp.br (fun hk => ?_) (fun hk => ?_)
  · have hk : x.kind = 1 := hk
    rw [cStart, if_pos hk]
    refine run ?_
    refine RegS.call (coPut_ok x sd d1 hn hT hK hE st1.wf h1) ?_
    rintro r B hr
    obtain ⟨sa, w', rfl, kB, b4, hout⟩ := OutR.close s1 hno hr b1 ho hk9 rfl
    refine run ?_
    refine RegS.storeA (us := ansC (cPut down N (T + K + E + E) x c).1 sa) kB ?_
    generalize hsets B H0.size 0 (ansC (cPut down N (T + K + E + E) x c).1 sa) = BB at b4 hout ⊢
    refine run ?_
    exact retcA b4 hout
  have hk1 : ¬ x.kind = 1 := hk
  rw [cStart, if_neg hk1]
  refine run ?_
  refine Wp.br (fun hk => ?_) (fun hk => ?_)
  · have hk : x.kind = 2 := hk
    rw [if_pos hk]
    refine run ?_
    refine RegS.call (coFind_ok c.v x.id hn st1.wf h1.at_ h1.is) ?_
    rintro r H2 ⟨⟨i, hat, hr0, hr1⟩, x2⟩
    have st2 : Step (fun _ => False) H1 O1 H2 O1 := x2.step st1.wf
    have h2 := h1.step st2 id id id id id
    have s2 := s1.trans (w0 st2)
    have b2 := b1.ext x2
    obtain ⟨f0, f1⟩ := cFind_at hat
    obtain ⟨hd, ok, rfl, hok⟩ : ∃ (hd : HdT) (ok : Bool), r = .tuple #[hdA hd, .bool ok] ∧ cFind c.v.dir x.id = if ok = true then some hd else none := by
      by_cases hi : i < 0
      · exact ⟨_, _, hr0 hi, by rw [f0 hi]; rfl⟩
      · exact ⟨_, _, hr1 (by omega), by rw [f1 (by omega)]; rfl⟩
    refine run ?_
    refine RegS.allocA fun H3 x3 z3 b3 => ?_
    have b3 : Blk H3 H2.size 79 [S [], IV 0] := b3
    refine run ?_
    refine RegS.storeA (us := [S hd.1, IV hd.2]) b3 ?_
    obtain ⟨e4, x4⟩ := Blk.lay [S hd.1, IV hd.2] b3 x3 (Nat.le_refl _) rfl
    generalize hsets H3 H2.size 0 [S hd.1, IV hd.2] = H4 at e4 x4 ⊢
    have st4 : Step (fun _ => False) H2 O1 H4 O1 := x4.step st2.wf
    have h4 := h2.step st4 id id id id id
    have s4 := s2.trans (w0 st4)
    have b4' := b2.ext x4
    have hb4 := h4.at_.blk
    rw [hok]
    refine run ?_
    cases ok with
    | false =>
      refine run ?_
      refine RegS.call (coEndR_ok (e := 10) st4.wf h4) ?_
      rintro r B hr
      obtain ⟨sa, w', rfl, kB, b5, hout⟩ := OutR.close s4 hno hr b4' ho hk9 rfl
      refine run ?_
      refine RegS.storeA (us := ansC (cEnd 10 c).1 sa) kB ?_
      generalize hsets B H0.size 0 (ansC (cEnd 10 c).1 sa) = BB at b5 hout ⊢
      refine run ?_
      exact retcA b5 hout
    | true =>
      rw [if_pos rfl]
      refine run ?_
      refine RegS.storeA (us := [S hd.1, IV hd.2]) hb4 ?_
      have c6 := hsets_chg cb [S hd.1, IV hd.2] 12 H4
      have b6 : Blk (hsets H4 cb 12 [S hd.1, IV hd.2]) cb 122 (coordC N T K E R fb bb { c.t with head := hd } ts) := Blk.sets [S hd.1, IV hd.2] 12 hb4
      have ht4 := h4.at_.task
      obtain ⟨h6, st6⟩ := h4.at_.turn (t' := { c.t with head := hd }) (ts' := ts) st4.wf c6 b6 ⟨ht4.parts, ht4.dealers, ht4.list, ht4.queue, ht4.got⟩
      have k6 := b4'.step st6 (by omega)
      generalize hsets H4 cb 12 [S hd.1, IV hd.2] = H6 at c6 b6 h6 st6 k6 ⊢
      have h6 : CoIs H6 O1 cb fb bb sb N T K E R down (cHead hd c) ts := ⟨h6, h4.is, ⟨h4.ok.phase, h4.ok.parts, h4.ok.dealers, h4.ok.queue, h4.ok.got, h4.ok.keys⟩⟩
      have s6 := s4.trans (wC (st6.mono fun x e => by subst e; exact ⟨by omega, by omega⟩))
      refine run ?_
      refine RegS.call (coUp_ok c.v (-1) (by omega) hn st6.wf h6.at_ h6.is) ?_
      rintro _ H7 ⟨w, rfl, hwr, x7, gw⟩
      have st7 : Step (fun _ => False) H6 O1 H7 O1 := x7.step st6.wf
      have h7 := h6.step st7 id id id id id
      have s7 := s6.trans (w0 st7)
      have k7 := k6.ext x7
      have hl7 : RoF IV 0 H7 O1 w (upL c.v.up (-1) N) := RoF.new hwr st6.wf gw
      refine run ?_
      refine RegS.call (coBegin_ok 2 0 0 w _ hn st7.wf h7 hl7 (upL_in _ _ _) (by omega) (fun e => absurd e (by decide))) ?_
      rintro r B hr
      obtain ⟨sa, w', rfl, kB, b9, hout⟩ := OutR.close s7 hno hr k7 ho hk9 rfl
      refine run ?_
      refine RegS.storeA (us := ansC (cBegin down 2 0 0 (upL c.v.up (-1) N) (cHead hd c)).1 sa) kB ?_
      generalize hsets B H0.size 0 (ansC (cBegin down 2 0 0 (upL c.v.up (-1) N) (cHead hd c)).1 sa) = BB at b9 hout ⊢
      refine run ?_
      exact retcA b9 hout
  have hk2 : ¬ x.kind = 2 := hk
  rw [if_neg hk2]
  refine run ?_
  refine Wp.br (fun hk => ?_) (fun hk => ?_)
  · have hk : x.kind = 5 := hk
    rw [if_pos hk]
    refine run ?_
    refine RegS.call (view_ok c.v hn st1.wf h1.at_.book h1.is) ?_
    rintro _ H2 ⟨k, rfl, hkv, x2, g1, g2, g3, nw⟩
    have st2 : Step (fun _ => False) H1 O1 H2 O1 := x2.step st1.wf
    have h2 := h1.step st2 id id id id id
    have s2 := s1.trans (w0 st2)
    have b2 := b1.ext x2
    refine run ?_
    refine Wp.br (fun he => ?_) (fun he => ?_)
    · have he : c.v.epoch ≥ ((1048576 : Nat) : Int) := he
      rw [if_pos (by omega)]
      refine run ?_
      refine RegS.call (coEndR_ok (e := 11) st2.wf h2) ?_
      rintro r B hr
      obtain ⟨sa, w', rfl, kB, b4, hout⟩ := OutR.close s2 hno hr b2 ho hk9 rfl
      refine run ?_
      refine RegS.storeA (us := ansC (cEnd 11 c).1 sa) kB ?_
      generalize hsets B H0.size 0 (ansC (cEnd 11 c).1 sa) = BB at b4 hout ⊢
      refine run ?_
      exact retcA b4 hout
    have he : ¬ c.v.epoch ≥ ((1048576 : Nat) : Int) := he
    rw [if_neg (by omega)]
    refine run ?_
    refine RegS.call (co_q_ok h2.at_ hT hK hE) ?_
    rintro _ _ ⟨rfl, rfl⟩
    refine run ?_
    refine RegS.call (coUp_ok c.v (-1) (by omega) hn st2.wf h2.at_ h2.is) ?_
    rintro _ H7 ⟨w, rfl, hwr, x7, gw⟩
    have st7 : Step (fun _ => False) H2 O1 H7 O1 := x7.step st2.wf
    have h7 := h2.step st7 id id id id id
    have s7 := s2.trans (w0 st7)
    have k7 := b2.ext x7
    have hl7 : RoF IV 0 H7 O1 w (upL c.v.up (-1) N) := RoF.new hwr st2.wf gw
    refine run ?_
    refine RegS.call (coEnough_ok (T + K + E + E) 3 2 0 w _ hn st7.wf h7 hl7 (upL_in _ _ _) (by omega) (fun e => absurd e (by decide))) ?_
    rintro r B hr
    obtain ⟨sa, w', rfl, kB, b9, hout⟩ := OutR.close s7 hno hr k7 ho hk9 rfl
    refine run ?_
    refine RegS.storeA (us := ansC (cEnough down (T + K + E + E) 3 2 0 (upL c.v.up (-1) N) c).1 sa) kB ?_
    generalize hsets B H0.size 0 (ansC (cEnough down (T + K + E + E) 3 2 0 (upL c.v.up (-1) N) c).1 sa) = BB at b9 hout ⊢
    refine run ?_
    exact retcA b9 hout
  have hk5 : ¬ x.kind = 5 := hk
  rw [if_neg hk5]
  refine run ?_
  refine Wp.br (fun hk => ?_) (fun hk => ?_)
  · have hk : x.kind = 6 := hk
    rw [if_pos hk]
    refine run ?_
    refine RegS.call (co_m_ok h1.at_ hT hK hE) ?_
    rintro _ _ ⟨rfl, rfl⟩
    refine run ?_
    refine RegS.call (coUp_ok c.v (-1) (by omega) hn st1.wf h1.at_ h1.is) ?_
    rintro _ H7 ⟨w, rfl, hwr, x7, gw⟩
    have st7 : Step (fun _ => False) H1 O1 H7 O1 := x7.step st1.wf
    have h7 := h1.step st7 id id id id id
    have s7 := s1.trans (w0 st7)
    have k7 := b1.ext x7
    have hl7 : RoF IV 0 H7 O1 w (upL c.v.up (-1) N) := RoF.new hwr st1.wf gw
    refine run ?_
    refine RegS.call (coEnough_ok (T + K + E) 3 4 0 w _ hn st7.wf h7 hl7 (upL_in _ _ _) (by omega) (fun _ => hqn)) ?_
    rintro r B hr
    obtain ⟨sa, w', rfl, kB, b9, hout⟩ := OutR.close s7 hno hr k7 ho hk9 rfl
    refine run ?_
    refine RegS.storeA (us := ansC (cEnough down (T + K + E) 3 4 0 (upL c.v.up (-1) N) c).1 sa) kB ?_
    generalize hsets B H0.size 0 (ansC (cEnough down (T + K + E) 3 4 0 (upL c.v.up (-1) N) c).1 sa) = BB at b9 hout ⊢
    refine run ?_
    exact retcA b9 hout
  have hk6 : ¬ x.kind = 6 := hk
  rw [if_neg hk6]
  by_cases ha : x.a < ((0 : Nat) : Int)
  · rw [if_pos (.inl (by omega))]
    refine run ?_
    refine RegS.call (coEndR_ok (e := 1) st1.wf h1) ?_
    rintro r B hr
    obtain ⟨sa, w', rfl, kB, b4, hout⟩ := OutR.close s1 hno hr b1 ho hk9 rfl
    refine run ?_
    refine RegS.storeA (us := ansC (cEnd 1 c).1 sa) kB ?_
    generalize hsets B H0.size 0 (ansC (cEnd 1 c).1 sa) = BB at b4 hout ⊢
    refine run ?_
    exact retcA b4 hout
  refine run ?_
  refine Wp.br (fun hb => ?_) (fun hb => ?_)
  · have hb : x.a ≥ (N : Int) := hb
    rw [if_pos (.inr (by omega))]
    refine run ?_
    refine RegS.call (coEndR_ok (e := 1) st1.wf h1) ?_
    rintro r B hr
    obtain ⟨sa, w', rfl, kB, b4, hout⟩ := OutR.close s1 hno hr b1 ho hk9 rfl
    refine run ?_
    refine RegS.storeA (us := ansC (cEnd 1 c).1 sa) kB ?_
    generalize hsets B H0.size 0 (ansC (cEnd 1 c).1 sa) = BB at b4 hout ⊢
    refine run ?_
    exact retcA b4 hout
  have hb : ¬ x.a ≥ (N : Int) := hb
  rw [if_neg (by omega)]
  refine run ?_
  refine RegP.buildSlice fun H2 o2 y2 w2 => ?_
  have r2 : RowF IV 0 H2 (Sl.fresh H1.size 1) [x.a] := OwnR.rowF (f := IV) (l := [x.a]) o2
  have st2 : Step (fun _ => False) H1 O1 H2 O1 := y2.step st1.wf
  have h2 := h1.step st2 id id id id id
  have s2 := s1.trans (w0 st2)
  have b2 := b1.ext y2
  have hb2 := h2.at_.blk
  refine run ?_
  refine RegP.call (mark_ok c.v (Sl.fresh H1.size 1) [x.a] hn (by simp) st2.wf h2.at_.book h2.is r2) ?_
  rintro _ H3 ⟨rfl, O3, st3, hk3⟩
  have h3 := h2.at_.ofBook st3 (by decide) (by decide) (by decide) hk3
  have h3 : CoIs H3 O3 cb fb bb sb N T K E R down (cMark down [x.a] c) ts := ⟨h3, bk_is h2.is fun _ => markV_fit h2.is.fit, h2.ok⟩
  have s3 := s2.trans (wC (st3.mono fun x e => by subst e; exact ⟨by omega, by omega⟩))
  have b3 := b2.step st3 (by omega)
  have ho3 := st3.own b2.lt ho
  have p3 : Blk H3 H.size 47 (stepC x sd) := (p1.ext y2).step st3 (by rw [st1.agr _ b0.lt, hw.new _ (Nat.le_refl _)]; decide)
  refine ⟨.inr proms2, ?_⟩
  by_cases he : (markA down c.s c.v [x.a]).2 = 0
  case neg =>
    rw [if_pos he]
    refine run ?_
    refine RegS.call (coEndR_ok (e := ((markA down c.s c.v [x.a]).2 : Nat)) st3.wf h3) ?_
    rintro r B hr
    obtain ⟨sa, w', rfl, kB, b4, hout⟩ := OutR.close s3 hno hr b3 ho3 hk9 rfl
    refine run ?_
    refine RegS.storeA (us := ansC (cEnd ((markA down c.s c.v [x.a]).2 : Nat) (cMark down [x.a] c)).1 sa) kB ?_
    generalize hsets B H0.size 0 (ansC (cEnd ((markA down c.s c.v [x.a]).2 : Nat) (cMark down [x.a] c)).1 sa) = BB at b4 hout ⊢
    refine run ?_
    exact retcA b4 hout
  rw [if_neg (by simpa using he), he]
  refine run ?_
  refine RegS.call (coRecover_ok x.a (by omega) hn hT hK hE st3.wf h3) ?_
  rintro r B hr
  obtain ⟨sa, w', rfl, kB, b4, hout⟩ := OutR.close s3 hno hr b3 ho3 hk9 rfl
  refine run ?_
  refine RegS.storeA (us := ansC (cRecover down N (T + K + E) x.a (cMark down [x.a] c)).1 sa) kB ?_
  generalize hsets B H0.size 0 (ansC (cRecover down N (T + K + E) x.a (cMark down [x.a] c)).1 sa) = BB at b4 hout ⊢
  refine run ?_
  exact retcA b4 hout
end
end Go.Proofs.YtaikdcnifijcoaaGreat
