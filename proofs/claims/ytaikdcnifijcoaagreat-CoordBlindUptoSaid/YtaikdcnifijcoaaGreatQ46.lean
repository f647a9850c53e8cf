/-
  The walk of coord.Handle. Printed by tools/gen_co16.py.
-/
import Derived.Test.YtaikdcnifijcoaaGreatQ45
set_option linter.unusedVariables false
set_option linter.unusedSimpArgs false
namespace Go.Proofs.YtaikdcnifijcoaaGreat
open Go Go.Vc Go.Gf
/-- Behind an answer. -/
noncomputable def cNext (down : Bool) (N T K E : Nat) (c : CSt) : COut :=
  if ¬ (c.t.phase = 4 ∧ c.t.sort = 3) ∧ c.t.got.length < c.t.parts.length then (ans0, [], c) else
  if c.t.phase = 3 then cDeal T c else cDecide down N T K E c
def cGot (m : MsgA) (c : CSt) : CSt := { c with t := { c.t with got := cadd c.t.got m.src m.data } }
open Classical in
noncomputable def cHandle (down : Bool) (N T K E : Nat) (m : MsgA) (c : CSt) : COut :=
  if (down || c.s.pw.gone) = true ∨ c.t.kind = 0 ∨ m.to ≠ -1 ∨ m.session ≠ c.t.session ∨ ¬ takesP c.t m.src then (ans0, [], c) else
  if m.kind = 11 ∧ c.t.phase ≠ 2 then cEnd (refusedA m.code) c else
  if ¬ countsP K c.t c.v.dir m then (ans0, [], c) else cNext down N T K E (cGot m c)
section
variable {S : Nat → Prop} {H H' A B : Heap} {O O' OA : Ow} {cb fb bb sb N T K E R : Nat} {down : Bool} {c : CSt} {ts : TaskS}
theorem GotRow.add {b : Nat} {l : SV} {d : CV} {k : Int} {s : Sl} {x : List UInt8} (h : GotRow H O b l d) (hk : sget l k = none) (hs : RoB H O s x) (hm : MapI H' b (mput (kvs l) k s.val)) (st : Step (· = 4) H O H' O') : GotRow H' O' b (sput l k s) (cadd d k x) := by
  have hck : cget d k = none := by
    rcases h.at k with ⟨_, e⟩ | ⟨s', d', e, _⟩
    · exact e
    · rw [hk] at e; cases e
  have hl := h.len2
  rw [mput_kvs] at hm
  refine ⟨hm, st.own h.map.lt h.own, ?_, fun i hi => ?_⟩
  · rw [sput_new hk, cadd, hck]
    simp [h.keys]
  · rw [sput_new hk] at hi ⊢
    rw [cadd, hck]
    simp only [Option.isSome_none, Bool.false_eq_true, if_false]
    simp only [List.length_append, List.length_singleton] at hi
    by_cases e : i < l.length
    · have e1 : (l ++ [(k, s)]).getD i (0, Sl.nil) = l.getD i (0, Sl.nil) := by simp [List.getD_eq_getElem?_getD, List.getElem?_append_left e]
      have e2 : (d ++ [(k, x)]).getD i (0, []) = d.getD i (0, []) := by simp [List.getD_eq_getElem?_getD, List.getElem?_append_left (show i < d.length by omega)]
      rw [e1, e2]
      exact (h.rows i e).step st (by decide)
    · have e1 : (l ++ [(k, s)]).getD i (0, Sl.nil) = (k, s) := by
        have : i = l.length := by omega
        subst this; simp [List.getD_eq_getElem?_getD]
      have e2 : (d ++ [(k, x)]).getD i (0, []) = (k, x) := by
        have : i = d.length := by omega
        subst this; simp [List.getD_eq_getElem?_getD]
      rw [e1, e2]
      exact hs.step st (by decide)
theorem cget_mem : ∀ {c : CV} {k : Int}, k ∈ c.map (·.1) → (cget c k).isSome = true
  | [], k, h => by cases h
  | (a, d) :: c, k, h => by
    by_cases e : a = k
    · simp [cget, e]
    · have : k ∈ c.map (·.1) := by
        rcases List.mem_cons.1 h with e2 | e2
        · exact absurd e2.symm e
        · exact e2
      have := cget_mem this
      simp [cget, e, this]
theorem CoAt.gotten {s : Slt} {t : TaskA} {ts : TaskS} {mb : Nat} {l : SV} {d : CV} (h : CoAt H O cb fb bb sb N T K E R down s t ts) (hg : ts.got = some mb) (hm : GotRow H' O' mb l d) (st : Step (· = 4) H O H' O') : CoAt H' O' cb fb bb sb N T K E R down s { t with got := d } ts := by
  obtain ⟨h1, h2, h3, h4, h5, h6⟩ := h
  refine ⟨h1.step st (by rw [h2]; decide), st.own h1.lt h2, isField_chg h3 st.chg (by rw [h4]; decide), st.own (hcell_lt (h3.exp 0 (by omega))) h4, h5.step st (by decide) (by decide) (by decide), h6.parts.step st (by decide), h6.dealers.step st (by decide), h6.list.step st (by decide), h6.queue.step st (by decide), ?_⟩
  rw [hg]
  exact ⟨l, hm⟩
theorem TaskOk.gotten {t : TaskA} {k : Int} {x : List UInt8} (h : TaskOk N t) (hk : 0 ≤ k ∧ k < N) : TaskOk N { t with got := cadd t.got k x } := by
  refine ⟨h.phase, h.parts, h.dealers, h.queue, fun p hp => ?_, ?_⟩
  · have hp : p ∈ cadd t.got k x := hp
    unfold cadd at hp
    split at hp
    · exact h.got p hp
    · rcases List.mem_append.1 hp with e | e
      · exact h.got p e
      · rw [List.mem_singleton.1 e]; exact hk
  · show (List.map (·.1) (cadd t.got k x)).Nodup
    unfold cadd
    split
    · exact h.keys
    · rename_i e
      rw [List.map_append, List.nodup_append]
      refine ⟨h.keys, by simp, fun a ha b hb => ?_⟩
      simp only [List.map_cons, List.map_nil, List.mem_singleton] at hb
      subst hb
      intro e2
      subst e2
      exact e (cget_mem ha)
set_option maxHeartbeats 16000000 in
theorem coHandle_ok (m : MsgA) (ms : MsgS) (hm : MsgIn H m ms) (hf : MsgFit m) (hn : N ≤ 255) (hT0 : 1 ≤ T) (hT : T ≤ 255) (hK0 : 1 ≤ K) (hK : K ≤ 255) (hE : E ≤ 255) (hd : T + K ≤ 256) (hw : WfO H O) (h : CoIs H O cb fb bb sb N T K E R down c ts) (hgs : Rest c.t ts) (hri : Rises c.v.dir) (hv : c.t.kind ≠ 0 → TInv N T c.t) :
    CallsH Tryz.prog 27 [ptrD cb, .agg (msgC m ms).toArray] H (OutR H O cb fb bb sb N T K E R down (cHandle down N T K E m c)) := by
  have hfd := hf.da
  refine CallsH.enter h27 Tryz.func27 rfl rfl rfl (by decide) fun u => run ?_
  refine RegS.boxA fun H0 x0 z0 b0 => ?_
  have b0 : Blk H0 H.size 38 (msgC m ms) := b0
  have s0 : Step (fun _ => False) H O H0 O := x0.step hw
  refine run ?_
  refine RegS.allocA fun H1 x1 z1 b1 => ?_
  have b1 : Blk H1 H0.size 51 (ansC ans0 ansS0) := b1
  obtain ⟨k9, O1, hk9, hno0, st1, ho⟩ := cell_new s0.wf x1 z1
  have hno : ∀ b, b < H.size → O b ≠ k9 := fun b hb => hno0 b (by omega)
  have h1 := (h.step s0 id id id id id).step st1 id id id id id
  have s1 : Step (fun x => Co x ∨ x = k9) H O H1 O1 := (w0 s0).trans (w0 st1)
  have p1 := b0.ext x1
  have m1 := (hm.ext x0).ext x1
  have hb1 := h1.at_.blk
  have lt1 := b1.lt
  refine run ?_
  refine RegP.call (coIdle_ok h1.at_) ?_
  rintro _ _ ⟨rfl, rfl⟩
  refine ⟨.inl (Ext.refl _), ?_⟩
  cases hi : (down || c.s.pw.gone || dec (c.t.kind = 0)) with
  | true =>
    rw [cHandle, if_pos ((idle_iff.1 hi).elim .inl fun k => .inr (.inl k))]
    refine run ?_
    refine RegS.storeA (us := ansC ans0 ansS0) b1 ?_
    obtain ⟨b9, st9⟩ := cell_set (ansC ans0 ansS0) st1.wf b1 ho rfl
    generalize hsets H1 H0.size 0 (ansC ans0 ansS0) = H9 at b9 st9 ⊢
    have h9 := h1.step st9 (by omega) (by omega) (by omega) (by omega) (by omega)
    refine run ?_
    exact retcA (cs := ansC ans0 ansS0) b9 ⟨ansS0, Sl.nil, [], O1, ts, rfl, ansRo0 _ _, MsgRo.nil _ _, rfl, Step.drop (s1.trans (st9.mono fun x e => .inr e)) (fun b hb hS => hS.elim _root_.id fun e => absurd e (hno b hb)), h9, hgs⟩
  | false =>
    have hid : ¬ ((down || c.s.pw.gone) = true ∨ c.t.kind = 0) := fun k => by have := idle_iff.2 k; rw [hi] at this; cases this
    have hkd : c.t.kind ≠ 0 := fun e => hid (.inr e)
    obtain ⟨hg0, hq4⟩ := hgs hkd
    have hv := hv hkd
    obtain ⟨mb, hmb⟩ := Option.isSome_iff_exists.1 hg0
    by_cases hto : m.to ≠ -1
    · rw [cHandle, if_pos (.inr (.inr (.inl hto)))]
      refine run ?_
      refine RegS.storeA (us := ansC ans0 ansS0) b1 ?_
      obtain ⟨b9, st9⟩ := cell_set (ansC ans0 ansS0) st1.wf b1 ho rfl
      generalize hsets H1 H0.size 0 (ansC ans0 ansS0) = H9 at b9 st9 ⊢
      have h9 := h1.step st9 (by omega) (by omega) (by omega) (by omega) (by omega)
      refine run ?_
      exact retcA (cs := ansC ans0 ansS0) b9 ⟨ansS0, Sl.nil, [], O1, ts, rfl, ansRo0 _ _, MsgRo.nil _ _, rfl, Step.drop (s1.trans (st9.mono fun x e => .inr e)) (fun b hb hS => hS.elim _root_.id fun e => absurd e (hno b hb)), h9, hgs⟩
    by_cases hse : m.session ≠ c.t.session
    · rw [cHandle, if_pos (.inr (.inr (.inr (.inl hse))))]
      refine run ?_
      refine RegS.storeA (us := ansC ans0 ansS0) b1 ?_
      obtain ⟨b9, st9⟩ := cell_set (ansC ans0 ansS0) st1.wf b1 ho rfl
      generalize hsets H1 H0.size 0 (ansC ans0 ansS0) = H9 at b9 st9 ⊢
      have h9 := h1.step st9 (by omega) (by omega) (by omega) (by omega) (by omega)
      refine run ?_
      exact retcA (cs := ansC ans0 ansS0) b9 ⟨ansS0, Sl.nil, [], O1, ts, rfl, ansRo0 _ _, MsgRo.nil _ _, rfl, Step.drop (s1.trans (st9.mono fun x e => .inr e)) (fun b hb hS => hS.elim _root_.id fun e => absurd e (hno b hb)), h9, hgs⟩
    have hto : m.to = -1 := Classical.not_not.1 hto
    have hse : m.session = c.t.session := Classical.not_not.1 hse
    refine run ?_
    refine RegP.call (coTakes_ok m.src h1 hn) ?_
    rintro _ _ ⟨rfl, rfl⟩
    refine ⟨.inl (Ext.refl _), ?_⟩
    by_cases htk : takesP c.t m.src
    case neg =>
      rw [dec_neg htk, cHandle, if_pos (.inr (.inr (.inr (.inr htk))))]
      refine run ?_
      refine RegS.storeA (us := ansC ans0 ansS0) b1 ?_
      obtain ⟨b9, st9⟩ := cell_set (ansC ans0 ansS0) st1.wf b1 ho rfl
      generalize hsets H1 H0.size 0 (ansC ans0 ansS0) = H9 at b9 st9 ⊢
      have h9 := h1.step st9 (by omega) (by omega) (by omega) (by omega) (by omega)
      refine run ?_
      exact retcA (cs := ansC ans0 ansS0) b9 ⟨ansS0, Sl.nil, [], O1, ts, rfl, ansRo0 _ _, MsgRo.nil _ _, rfl, Step.drop (s1.trans (st9.mono fun x e => .inr e)) (fun b hb hS => hS.elim _root_.id fun e => absurd e (hno b hb)), h9, hgs⟩
    rw [dec_pos htk]
    have hsr : 0 ≤ m.src ∧ m.src < N := by
      rcases htk with k | k
      · exact h.ok.parts.mem _ k
      · rw [k.2.2]; exact hv.target k.2.1
    rw [cHandle, if_neg (fun k => by rcases k with k | k | k | k | k; exact hid (.inl k); exact hkd k; exact k hto; exact k hse; exact k htk)]
    by_cases hx : m.kind = 11 ∧ c.t.phase ≠ 2
    · have hx1 : m.kind = ((11 : Nat) : Int) := hx.1
      have hx2 : ¬ c.t.phase = ((2 : Nat) : Int) := hx.2
      rw [if_pos hx]
      refine run ?_
      refine RegS.call (coRefused_ok m.code H1) ?_
      rintro _ _ ⟨rfl, rfl⟩
      refine run ?_
      refine RegS.call (coEndR_ok (e := refusedA m.code) st1.wf h1) ?_
      rintro r B hr
      obtain ⟨sa, w', rfl, kB, b9, hout⟩ := OutR.close s1 hno hr b1 ho hk9 rfl
      refine run ?_
      refine RegS.storeA (us := ansC (cEnd (refusedA m.code) c).1 sa) kB ?_
      generalize hsets B H0.size 0 (ansC (cEnd (refusedA m.code) c).1 sa) = BB at b9 hout ⊢
      refine run ?_
      exact retcA b9 hout
    rw [if_neg hx]
    by_cases hk11 : m.kind = ((11 : Nat) : Int)
    · have hp2 : c.t.phase = ((2 : Nat) : Int) := Classical.not_not.1 fun k => hx ⟨hk11, k⟩
      have hct : ¬ countsP K c.t c.v.dir m := fun k => by
        rcases k with k | k | k
        · omega
        · omega
        · omega
      refine run ?_
      refine RegS.call (coCounts_ok m ms m1 hf hn hK0 hK st1.wf h1) ?_
      rintro _ H2 ⟨rfl, x2⟩
      have st2 : Step (fun _ => False) H1 O1 H2 O1 := x2.step st1.wf
      have h2 := h1.step st2 id id id id id
      have b2 := b1.ext x2
      have s2 := s1.trans (w0 st2)
      rw [dec_neg hct, if_pos hct]
      refine run ?_
      refine RegS.storeA (us := ansC ans0 ansS0) b2 ?_
      obtain ⟨b9, st9⟩ := cell_set (ansC ans0 ansS0) st2.wf b2 ho rfl
      generalize hsets H2 H0.size 0 (ansC ans0 ansS0) = H9 at b9 st9 ⊢
      have h9 := h2.step st9 (by omega) (by omega) (by omega) (by omega) (by omega)
      refine run ?_
      exact retcA (cs := ansC ans0 ansS0) b9 ⟨ansS0, Sl.nil, [], O1, ts, rfl, ansRo0 _ _, MsgRo.nil _ _, rfl, Step.drop (s2.trans (st9.mono fun x e => .inr e)) (fun b hb hS => hS.elim _root_.id fun e => absurd e (hno b hb)), h9, hgs⟩
    refine run ?_
    refine RegS.call (coCounts_ok m ms m1 hf hn hK0 hK st1.wf h1) ?_
    rintro _ H2 ⟨rfl, x2⟩
    have st2 : Step (fun _ => False) H1 O1 H2 O1 := x2.step st1.wf
    have h2 := h1.step st2 id id id id id
    have b2 := b1.ext x2
    have p2 := p1.ext x2
    have m2 := m1.ext x2
    have s2 := s1.trans (w0 st2)
    have hb2 := h2.at_.blk
    by_cases hct : countsP K c.t c.v.dir m
    case neg =>
      rw [dec_neg hct, if_pos hct]
      refine run ?_
      refine RegS.storeA (us := ansC ans0 ansS0) b2 ?_
      obtain ⟨b9, st9⟩ := cell_set (ansC ans0 ansS0) st2.wf b2 ho rfl
      generalize hsets H2 H0.size 0 (ansC ans0 ansS0) = H9 at b9 st9 ⊢
      have h9 := h2.step st9 (by omega) (by omega) (by omega) (by omega) (by omega)
      refine run ?_
      exact retcA (cs := ansC ans0 ansS0) b9 ⟨ansS0, Sl.nil, [], O1, ts, rfl, ansRo0 _ _, MsgRo.nil _ _, rfl, Step.drop (s2.trans (st9.mono fun x e => .inr e)) (fun b hb hS => hS.elim _root_.id fun e => absurd e (hno b hb)), h9, hgs⟩
    rw [dec_pos hct, if_neg (fun k => k hct)]
    have hgot := h2.at_.task.got
    rw [hmb] at hgot
    obtain ⟨l, gr⟩ := hgot
    have hb2 : Blk H2 cb 122 (coordC N T K E R fb bb c.t { ts with got := some mb }) := by rw [← hmb]; exact hb2
    have hi64 : i64 m.src := ⟨by omega, by omega⟩
    refine run ?_
    refine RegP.lookup2 gr.map hi64 ?_
    rw [gr.some]
    cases hcg : cget c.t.got m.src with
    | some d0 =>
      have he : cGot m c = c := by unfold cGot cadd; rw [hcg]; rfl
      rw [he]
      obtain ⟨c', rfl⟩ : ∃ c', c' = c := ⟨_, rfl⟩
      obtain ⟨A, rfl⟩ : ∃ A, A = H2 := ⟨_, rfl⟩
      have hA := h2
      have grA := gr
      have kA := b2
      have stA := st2
      have sA := s2
      have hvA := hv
      have hrA := hgs
      refine run ?_
      have hbA := hA.at_.blk
      have hbA : Blk A cb 122 (coordC N T K E R fb bb c'.t { ts with got := some mb }) := by rw [← hmb]; exact hbA
      have hlA := grA.len
      have hpA := hA.at_.task.parts.row
      have hk := hA.ok.keysIn
      have hkl := keysC_len c'.t
      rw [cNext]
      by_cases g4 : c'.t.phase = ((4 : Nat) : Int)
      · by_cases g3 : c'.t.sort = ((3 : Nat) : Int)
        · rw [if_neg (fun k => k.1 ⟨g4, g3⟩), if_neg (show ¬ c'.t.phase = 3 by omega)]
          refine run ?_
          refine RegS.call (coDecide_ok hn hT0 hT hK0 hK hE hd stA.wf hA hg0 hq4 hri hk) ?_
          rintro r B hr
          obtain ⟨sa, w', rfl, kB, b9, hout⟩ := OutR.close sA hno hr kA ho hk9 rfl
          refine run ?_
          refine RegS.storeA (us := ansC (cDecide down N T K E c').1 sa) kB ?_
          generalize hsets B H0.size 0 (ansC (cDecide down N T K E c').1 sa) = BB at b9 hout ⊢
          refine run ?_
          exact retcA b9 hout
        refine run ?_
        refine RegP.q' (h := Rd.lenMap rfl rfl rfl rfl grA.map) ?_
        rw [hlA]
        refine run ?_
        refine Wp.br (fun g5 => ?_) (fun g5 => ?_)
        · have g5 : (c'.t.got.length : Int) < (c'.t.parts.length : Int) := g5
          rw [if_pos ⟨fun k => g3 k.2, by omega⟩]
          refine run ?_
          refine RegS.storeA (us := ansC ans0 ansS0) kA ?_
          obtain ⟨b9, st9⟩ := cell_set (ansC ans0 ansS0) stA.wf kA ho rfl
          generalize hsets A H0.size 0 (ansC ans0 ansS0) = H9 at b9 st9 ⊢
          have h9 := hA.step st9 (by omega) (by omega) (by omega) (by omega) (by omega)
          refine run ?_
          exact retcA (cs := ansC ans0 ansS0) b9 ⟨ansS0, Sl.nil, [], O1, ts, rfl, ansRo0 _ _, MsgRo.nil _ _, rfl, Step.drop (sA.trans (st9.mono fun x e => .inr e)) (fun b hb hS => hS.elim _root_.id fun e => absurd e (hno b hb)), h9, hrA⟩
        have g5 : ¬ (c'.t.got.length : Int) < (c'.t.parts.length : Int) := g5
        rw [if_neg (fun k => by omega)]
        rw [if_neg (show ¬ c'.t.phase = 3 by omega)]
        refine run ?_
        refine RegS.call (coDecide_ok hn hT0 hT hK0 hK hE hd stA.wf hA hg0 hq4 hri hk) ?_
        rintro r B hr
        obtain ⟨sa, w', rfl, kB, b9, hout⟩ := OutR.close sA hno hr kA ho hk9 rfl
        refine run ?_
        refine RegS.storeA (us := ansC (cDecide down N T K E c').1 sa) kB ?_
        generalize hsets B H0.size 0 (ansC (cDecide down N T K E c').1 sa) = BB at b9 hout ⊢
        refine run ?_
        exact retcA b9 hout
      refine run ?_
      refine RegP.q' (h := Rd.lenMap rfl rfl rfl rfl grA.map) ?_
      rw [hlA]
      refine run ?_
      refine Wp.br (fun g5 => ?_) (fun g5 => ?_)
      · have g5 : (c'.t.got.length : Int) < (c'.t.parts.length : Int) := g5
        rw [if_pos ⟨fun k => g4 k.1, by omega⟩]
        refine run ?_
        refine RegS.storeA (us := ansC ans0 ansS0) kA ?_
        obtain ⟨b9, st9⟩ := cell_set (ansC ans0 ansS0) stA.wf kA ho rfl
        generalize hsets A H0.size 0 (ansC ans0 ansS0) = H9 at b9 st9 ⊢
        have h9 := hA.step st9 (by omega) (by omega) (by omega) (by omega) (by omega)
        refine run ?_
        exact retcA (cs := ansC ans0 ansS0) b9 ⟨ansS0, Sl.nil, [], O1, ts, rfl, ansRo0 _ _, MsgRo.nil _ _, rfl, Step.drop (sA.trans (st9.mono fun x e => .inr e)) (fun b hb hS => hS.elim _root_.id fun e => absurd e (hno b hb)), h9, hrA⟩
      have g5 : ¬ (c'.t.got.length : Int) < (c'.t.parts.length : Int) := g5
      rw [if_neg (fun k => by omega)]
      by_cases g6 : c'.t.phase = ((3 : Nat) : Int)
      · rw [if_pos (show c'.t.phase = 3 from g6)]
        refine run ?_
        refine RegS.call (coDeal_ok hn hT stA.wf hA hg0 hq4 hk (by have := hvA.parts g6; omega)) ?_
        rintro r B hr
        obtain ⟨sa, w', rfl, kB, b9, hout⟩ := OutR.close sA hno hr kA ho hk9 rfl
        refine run ?_
        refine RegS.storeA (us := ansC (cDeal T c').1 sa) kB ?_
        generalize hsets B H0.size 0 (ansC (cDeal T c').1 sa) = BB at b9 hout ⊢
        refine run ?_
        exact retcA b9 hout
      rw [if_neg (show ¬ c'.t.phase = 3 from g6)]
      refine run ?_
      refine RegS.call (coDecide_ok hn hT0 hT hK0 hK hE hd stA.wf hA hg0 hq4 hri hk) ?_
      rintro r B hr
      obtain ⟨sa, w', rfl, kB, b9, hout⟩ := OutR.close sA hno hr kA ho hk9 rfl
      refine run ?_
      refine RegS.storeA (us := ansC (cDecide down N T K E c').1 sa) kB ?_
      generalize hsets B H0.size 0 (ansC (cDecide down N T K E c').1 sa) = BB at b9 hout ⊢
      refine run ?_
      exact retcA b9 hout
    | none =>
      have hsg : sget l m.src = none := by
        rcases gr.at m.src with ⟨e1, e2⟩ | ⟨s, d, e1, e2, _⟩
        · exact e1
        · rw [hcg] at e2; cases e2
      refine run ?_
      refine RegP.call (clone_ok ms.da m.data H2 m2.da (by omega)) ?_
      rintro _ H3 ⟨cl, rfl, ocl, x3⟩
      refine ⟨.inl x3, ?_⟩
      have st3 : Step (fun _ => False) H2 O1 H3 O1 := x3.step st2.wf
      have h3 := h2.step st3 id id id id id
      have b3 := b2.ext x3
      have s3 := s2.trans (w0 st3)
      have hcl3 : RoB H3 O1 cl m.data := RoF.new (OwnR.rowF ocl) st2.wf fun b hb => (OwnR.blk_ge ocl hb).1
      have gr3 : GotRow H3 O1 mb l c.t.got := ⟨gr.map.ext x3, gr.own, gr.keys, fun i hi => (gr.rows i hi).step st3 id⟩
      refine run ?_
      refine RegP.mapUpdate (u := cl.val) gr3.map hi64 fun A mA cA => ?_
      have stA : Step (· = 4) H3 O1 A O1 := cA.step st3.wf fun x _ e => by subst e; exact gr3.own
      have grA := gr3.add hsg hcl3 mA stA
      have hA : CoIs A O1 cb fb bb sb N T K E R down (cGot m c) ts := ⟨h3.at_.gotten hmb grA stA, h3.is, h3.ok.gotten hsr⟩
      have kA := b3.step stA (by omega)
      have sA := s3.trans (wC (stA.mono fun x e => by subst e; exact ⟨by omega, by omega⟩))
      refine ⟨by exact proms2, ?_⟩
      obtain ⟨c', hc'⟩ : ∃ c', c' = cGot m c := ⟨_, rfl⟩
      have grA : GotRow A O1 mb (sput l m.src cl) c'.t.got := by rw [hc']; exact grA
      rw [← hc'] at hA ⊢
      have hvA : TInv N T c'.t := by rw [hc']; exact ⟨hv.target, hv.parts⟩
      have hrA : Rest c'.t ts := by rw [hc']; exact hgs
      have hq4 : c'.t.sort = 4 → ts.queue = Sl.nil := by rw [hc']; exact hq4
      have hri : Rises c'.v.dir := by rw [hc']; exact hri
      refine run ?_
      have hbA := hA.at_.blk
      have hbA : Blk A cb 122 (coordC N T K E R fb bb c'.t { ts with got := some mb }) := by rw [← hmb]; exact hbA
      have hlA := grA.len
      have hpA := hA.at_.task.parts.row
      have hk := hA.ok.keysIn
      have hkl := keysC_len c'.t
      rw [cNext]
      by_cases g4 : c'.t.phase = ((4 : Nat) : Int)
      · by_cases g3 : c'.t.sort = ((3 : Nat) : Int)
        · rw [if_neg (fun k => k.1 ⟨g4, g3⟩), if_neg (show ¬ c'.t.phase = 3 by omega)]
          refine run ?_
          refine RegS.call (coDecide_ok hn hT0 hT hK0 hK hE hd stA.wf hA hg0 hq4 hri hk) ?_
          rintro r B hr
          obtain ⟨sa, w', rfl, kB, b9, hout⟩ := OutR.close sA hno hr kA ho hk9 rfl
          refine run ?_
          refine RegS.storeA (us := ansC (cDecide down N T K E c').1 sa) kB ?_
          generalize hsets B H0.size 0 (ansC (cDecide down N T K E c').1 sa) = BB at b9 hout ⊢
          refine run ?_
          exact retcA b9 hout
        refine run ?_
        refine RegP.q' (h := Rd.lenMap rfl rfl rfl rfl grA.map) ?_
        rw [hlA]
        refine run ?_
        refine Wp.br (fun g5 => ?_) (fun g5 => ?_)
        · have g5 : (c'.t.got.length : Int) < (c'.t.parts.length : Int) := g5
          rw [if_pos ⟨fun k => g3 k.2, by omega⟩]
          refine run ?_
          refine RegS.storeA (us := ansC ans0 ansS0) kA ?_
          obtain ⟨b9, st9⟩ := cell_set (ansC ans0 ansS0) stA.wf kA ho rfl
          generalize hsets A H0.size 0 (ansC ans0 ansS0) = H9 at b9 st9 ⊢
          have h9 := hA.step st9 (by omega) (by omega) (by omega) (by omega) (by omega)
          refine run ?_
          exact retcA (cs := ansC ans0 ansS0) b9 ⟨ansS0, Sl.nil, [], O1, ts, rfl, ansRo0 _ _, MsgRo.nil _ _, rfl, Step.drop (sA.trans (st9.mono fun x e => .inr e)) (fun b hb hS => hS.elim _root_.id fun e => absurd e (hno b hb)), h9, hrA⟩
        have g5 : ¬ (c'.t.got.length : Int) < (c'.t.parts.length : Int) := g5
        rw [if_neg (fun k => by omega)]
        rw [if_neg (show ¬ c'.t.phase = 3 by omega)]
        refine run ?_
        refine RegS.call (coDecide_ok hn hT0 hT hK0 hK hE hd stA.wf hA hg0 hq4 hri hk) ?_
        rintro r B hr
        obtain ⟨sa, w', rfl, kB, b9, hout⟩ := OutR.close sA hno hr kA ho hk9 rfl
        refine run ?_
        refine RegS.storeA (us := ansC (cDecide down N T K E c').1 sa) kB ?_
        generalize hsets B H0.size 0 (ansC (cDecide down N T K E c').1 sa) = BB at b9 hout ⊢
        refine run ?_
        exact retcA b9 hout
      refine run ?_
      refine RegP.q' (h := Rd.lenMap rfl rfl rfl rfl grA.map) ?_
      rw [hlA]
      refine run ?_
      refine Wp.br (fun g5 => ?_) (fun g5 => ?_)
      · have g5 : (c'.t.got.length : Int) < (c'.t.parts.length : Int) := g5
        rw [if_pos ⟨fun k => g4 k.1, by omega⟩]
        refine run ?_
        refine RegS.storeA (us := ansC ans0 ansS0) kA ?_
        obtain ⟨b9, st9⟩ := cell_set (ansC ans0 ansS0) stA.wf kA ho rfl
        generalize hsets A H0.size 0 (ansC ans0 ansS0) = H9 at b9 st9 ⊢
        have h9 := hA.step st9 (by omega) (by omega) (by omega) (by omega) (by omega)
        refine run ?_
        exact retcA (cs := ansC ans0 ansS0) b9 ⟨ansS0, Sl.nil, [], O1, ts, rfl, ansRo0 _ _, MsgRo.nil _ _, rfl, Step.drop (sA.trans (st9.mono fun x e => .inr e)) (fun b hb hS => hS.elim _root_.id fun e => absurd e (hno b hb)), h9, hrA⟩
      have g5 : ¬ (c'.t.got.length : Int) < (c'.t.parts.length : Int) := g5
      rw [if_neg (fun k => by omega)]
      by_cases g6 : c'.t.phase = ((3 : Nat) : Int)
      · rw [if_pos (show c'.t.phase = 3 from g6)]
        refine run ?_
        refine RegS.call (coDeal_ok hn hT stA.wf hA hg0 hq4 hk (by have := hvA.parts g6; omega)) ?_
        rintro r B hr
        obtain ⟨sa, w', rfl, kB, b9, hout⟩ := OutR.close sA hno hr kA ho hk9 rfl
        refine run ?_
        refine RegS.storeA (us := ansC (cDeal T c').1 sa) kB ?_
        generalize hsets B H0.size 0 (ansC (cDeal T c').1 sa) = BB at b9 hout ⊢
        refine run ?_
        exact retcA b9 hout
      rw [if_neg (show ¬ c'.t.phase = 3 from g6)]
      refine run ?_
      refine RegS.call (coDecide_ok hn hT0 hT hK0 hK hE hd stA.wf hA hg0 hq4 hri hk) ?_
      rintro r B hr
      obtain ⟨sa, w', rfl, kB, b9, hout⟩ := OutR.close sA hno hr kA ho hk9 rfl
      refine run ?_
      refine RegS.storeA (us := ansC (cDecide down N T K E c').1 sa) kB ?_
      generalize hsets B H0.size 0 (ansC (cDecide down N T K E c').1 sa) = BB at b9 hout ⊢
      refine run ?_
      exact retcA b9 hout
end
end Go.Proofs.YtaikdcnifijcoaaGreat
