/-
  The laws of layer 11, walked: known answers, plain.
-/
import Derived.Test.YtaikdcnifijcoaaGreatQ42
import Derived.Test.YtaikdcnifijcoaaGreatQ05
import Derived.Test.YtaikdcnifijcoaaGreatQ36
set_option linter.unusedVariables false
set_option linter.unusedSimpArgs false
namespace Go.Proofs.YtaikdcnifijcoaaGreat
open Go Go.Vc Go.Gf
theorem columns_le {size K : Nat} (hK : 1 ≤ K) : columns size K ≤ size := by
  unfold columns
  rw [Nat.div_le_iff_le_mul_add_pred (by omega)]
  have := Nat.mul_le_mul_right size hK
  rw [Nat.mul_comm K size]
  rw [Nat.one_mul] at this
  have : size * 1 ≤ size * K := Nat.mul_le_mul_left size hK
  omega
end Go.Proofs.YtaikdcnifijcoaaGreat
set_option linter.unusedVariables false
set_option linter.unusedSimpArgs false
namespace Go.Proofs.YtaikdcnifijcoaaGreat
open Go Go.Vc Go.Gf
section
variable {S : Nat → Prop} {H H' A B : Heap} {O O' OA : Ow} {cb fb bb sb N T K E R : Nat} {down : Bool} {c : CSt} {ts : TaskS}
/-- Which error a refusal ends a call with. -/
def refusedA (e : Int) : Int := if e = 7 ∨ e = 6 then e else 5
theorem coRefused_ok (e : Int) (H : Heap) : CallsH Tryz.prog 85 [IV e] H fun r H' => r = IV (refusedA e) ∧ H = H' := by
  refine CallsH.enter h85 Tryz.func85 rfl rfl rfl (by decide) fun u => run ?_
  refine Wp.br (fun h => ?_) (fun h => ?_)
  · have h : e = 7 := h
    refine run ?_
    exact ret1 ⟨by rw [refusedA, if_pos (.inl h)], rfl⟩
  have h1 : ¬ e = 7 := h
  refine run ?_
  refine Wp.br (fun h => ?_) (fun h => ?_)
  · have h : e = 6 := h
    refine run ?_
    exact ret1 ⟨by rw [refusedA, if_pos (.inr h)], rfl⟩
  have h2 : ¬ e = 6 := h
  refine run ?_
  exact ret1 ⟨by rw [refusedA, if_neg (by omega)], rfl⟩
/-- Does somebody take part? -/
def takesP (t : TaskA) (n : Int) : Prop := n ∈ t.parts ∨ (t.phase = 4 ∧ t.sort = 3 ∧ n = t.target)
theorem coTakes_ok (n : Int) (h : CoIs H O cb fb bb sb N T K E R down c ts) (hn : N ≤ 255) : CallsH Tryz.prog 84 [ptrD cb, IV n] H fun r H' => r = .bool (dec (takesP c.t n)) ∧ H = H' := by
  have hb := h.at_.blk
  have hp := h.at_.task.parts.row
  have hpl := h.ok.parts.len
  refine CallsH.enter h84 Tryz.func84 rfl rfl rfl (by decide) fun u => run ?_
  refine RegS.call (containsI_ok ts.parts c.t.parts n H hp (by omega)) ?_
  rintro _ _ ⟨rfl, rfl⟩
  by_cases h1 : n ∈ c.t.parts
  · rw [dec_pos h1]
    refine run ?_
    exact ret1 ⟨by rw [dec_pos (show takesP c.t n from .inl h1)], rfl⟩
  rw [dec_neg h1]
  by_cases h2 : c.t.phase = ((4 : Nat) : Int)
  · by_cases h3 : c.t.sort = ((3 : Nat) : Int)
    · refine run ?_
      refine ret1 ⟨congrArg Value.bool (dec_congr ⟨fun k => .inr ⟨h2, h3, k⟩, fun k => k.elim (fun k => absurd k h1) fun k => k.2.2⟩), rfl⟩
    · refine run ?_
      refine ret1 ⟨by rw [dec_neg fun k : takesP c.t n => k.elim h1 fun k => h3 k.2.1], rfl⟩
  · refine run ?_
    refine ret1 ⟨by rw [dec_neg fun k : takesP c.t n => k.elim h1 fun k => h2 k.1], rfl⟩
/-- Columns of heads. -/
def colsA (K : Nat) (l : List HdT) : Nat := (l.map fun h => columns h.2.toNat K).sum
theorem colsA_snoc (K : Nat) (l : List HdT) (h : HdT) : colsA K (l ++ [h]) = colsA K l + columns h.2.toNat K := by simp [colsA]
theorem colsA_le {K : Nat} (hK : 1 ≤ K) : ∀ {l : List HdT}, (∀ h ∈ l, 0 ≤ h.2 ∧ h.2 ≤ 256) → colsA K l ≤ 256 * l.length
  | [], _ => by simp [colsA]
  | a :: l, h => by
    have ih := colsA_le hK (l := l) fun x hx => h x (List.mem_cons_of_mem _ hx)
    have h1 := h a (by simp)
    have h2 := columns_le (size := a.2.toNat) hK
    simp only [colsA, List.map_cons, List.sum_cons, List.length_cons] at ih ⊢
    omega
set_option maxHeartbeats 4000000 in
theorem coColumns_ok (hn : N ≤ 255) (hK0 : 1 ≤ K) (hK : K ≤ 255) (hw : WfO H O) (h : CoIs H O cb fb bb sb N T K E R down c ts) : CallsH Tryz.prog 159 [ptrD cb] H fun r H' => r = I64 (colsA K c.v.dir) ∧ Ext H H' := by
  have hb := h.at_.blk
  have hfit := h.is.fit
  refine CallsH.enter h159 Tryz.func159 rfl rfl rfl (by decide) fun u => run ?_
  refine RegS.call (view_ok c.v hn hw h.at_.book h.is) ?_
  rintro _ H1 ⟨k, rfl, hi, x1, g1, g2, g3, nw⟩
  have hd1 := hi.dir
  refine run ?_
  refine Wp.loop (ι := Nat) (fun i => [(0, ptrD cb), (3, I64 (colsA K (c.v.dir.take i))), (11, k.dir.val), (12, I64 c.v.dir.length), (13, I64 i)]) (fun i A => i ≤ c.v.dir.length ∧ Ext H1 A) (fun i => c.v.dir.length - i) 0 subs ⟨Nat.zero_le _, Ext.refl _⟩ ?_
  rintro i A ⟨hi1, xA⟩
  have hdA := hd1.ext xA
  have hbA := hb.ext (x1.trans xA)
  have hdl := hfit.dir
  refine run ?_
  refine Wp.br (fun hlt => ?_) (fun hlt => ?_)
  · have hlt : (i : Int) < (c.v.dir.length : Int) := hlt
    have hit : i < c.v.dir.length := by omega
    have he := hfit.each (c.v.dir.getD i ([], 0)) (by rw [getD_get _ hit]; exact List.getElem_mem _)
    have hsn := colsA_snoc K (c.v.dir.take i) (c.v.dir.getD i ([], 0))
    rw [← take_snoc' _ hit] at hsn
    have hle := colsA_le hK0 (l := c.v.dir.take i) fun x hx => (hfit.each x (List.mem_of_mem_take hx)).2.2
    rw [List.length_take] at hle
    refine run ?_
    refine RegS.allocA fun A1 y1 v1 q1 => ?_
    have q1 : Blk A1 A.size 79 [S [], IV 0] := q1
    refine run ?_
    generalize c.v.dir.getD i ([], 0) = y at he hsn ⊢
    refine RegS.storeA (us := [S y.1, IV y.2]) q1 ?_
    obtain ⟨q2, x2⟩ := Blk.lay [S y.1, IV y.2] q1 y1 (Nat.le_refl _) rfl
    generalize hsets A1 A.size 0 [S y.1, IV y.2] = A2 at q2 x2 ⊢
    have hb2 := hbA.ext x2
    obtain ⟨n, hn'⟩ := Int.eq_ofNat_of_zero_le he.2.2.1
    have hcl := columns_le (size := n) hK0
    rw [hn'] at q2 hsn he
    rw [Int.toNat_natCast] at hsn
    refine run ?_
    refine RegP.call (columns_ok n K A2 hK0 (by omega) (by omega)) ?_
    rintro _ _ ⟨rfl, rfl⟩
    refine ⟨.inl (Ext.refl _), ?_⟩
    refine run ?_
    rw [← hsn]
    exact roundQ_n (i + 1) subs ⟨by omega, xA.trans x2⟩ (by omega)
  · have hlt : ¬ (i : Int) < (c.v.dir.length : Int) := hlt
    have hie : i = c.v.dir.length := by omega
    subst hie
    refine run ?_
    exact ret1 (v := I64 (colsA K (c.v.dir.take c.v.dir.length))) ⟨by rw [List.take_length], x1.trans xA⟩
/-- Heads, the same? -/
theorem eqHeads_ok (s t : Sl) (l m : List HdT) (hl : HRow H s l) (hm : HRow H t m) (hll : l.length ≤ 9223372036854775807) : CallsH Tryz.prog 158 [s.val, t.val] H fun r H' => r = .bool (dec (l = m)) ∧ H = H' := by
  refine CallsH.enter h158 Tryz.func158 rfl rfl rfl (by decide) fun u => run ?_
  refine Wp.br (fun h => ?_) (fun h => ?_)
  · have h : (l.length : Int) ≠ (m.length : Int) := h
    refine run ?_
    exact ret1 ⟨by rw [dec_neg fun e => h (by rw [e])], rfl⟩
  have hlm : l.length = m.length := by
    have := Classical.not_not.1 h
    omega
  refine run ?_
  refine Wp.loop (ι := Nat) (fun i => [(0, s.val), (1, t.val), (12, I64 l.length), (13, I64 i)]) (fun i A => i ≤ l.length ∧ (∀ j, j < i → l.getD j ([], 0) = m.getD j ([], 0)) ∧ A = H) (fun i => l.length - i) 0 subs ⟨Nat.zero_le _, fun j hj => absurd hj (Nat.not_lt_zero j), rfl⟩ ?_
  rintro i _ ⟨hi1, heq, rfl⟩
  refine run ?_
  refine Wp.br (fun hlt => ?_) (fun hlt => ?_)
  · have hlt : (i : Int) < (l.length : Int) := hlt
    refine run ?_
    refine RegP.q' (h := Rd.neqSI rfl rfl rfl rfl (by kernel_rfl) (by kernel_rfl) (by decide) (by decide) rfl rfl rfl rfl) ?_
    refine run ?_
    refine Wp.br (fun hne => ?_) (fun hne => ?_)
    · have hne : ¬ ((l.getD i ([], 0)).1 = (m.getD i ([], 0)).1 ∧ (l.getD i ([], 0)).2 = (m.getD i ([], 0)).2) := hne
      refine run ?_
      exact ret1 ⟨by rw [dec_neg fun e => hne (by rw [e]; exact ⟨rfl, rfl⟩)], rfl⟩
    · have he := Classical.not_not.1 hne
      refine run ?_
      exact roundQ_n (i + 1) subs ⟨by omega, fun j hj => by
        rcases Nat.lt_succ_iff_lt_or_eq.1 hj with h1 | rfl
        · exact heq j h1
        · exact Prod.ext he.1 he.2, rfl⟩ (by omega)
  · have hlt : ¬ (i : Int) < (l.length : Int) := hlt
    have hie : i = l.length := by omega
    subst hie
    have e : l = m := List.ext_getElem hlm fun j h1 h2 => by
      have := heq j h1
      simpa [List.getD_eq_getElem?_getD, h1, h2] using this
    refine run ?_
    exact ret1 ⟨by rw [dec_pos e], rfl⟩
/-- Is a message an answer? -/
def countsP (K : Nat) (t : TaskA) (dir : List HdT) (m : MsgA) : Prop :=
  (t.phase = 1 ∧ m.kind = 2) ∨ (t.phase = 3 ∧ m.kind = 6) ∨ (t.phase = 4 ∧ ((t.sort = 2 ∧ m.kind = 9) ∨ (t.sort = 3 ∧ m.kind = 9 ∧ m.src = t.target) ∨ (t.sort ≠ 2 ∧ t.sort ≠ 3 ∧ m.kind = 10 ∧ m.heads = dir ∧ m.data.length = colsA K dir)))
set_option maxHeartbeats 4000000 in
theorem coCounts_ok (m : MsgA) (ms : MsgS) (hm : MsgIn H m ms) (hf : MsgFit m) (hn : N ≤ 255) (hK0 : 1 ≤ K) (hK : K ≤ 255) (hw : WfO H O) (h : CoIs H O cb fb bb sb N T K E R down c ts) :
    CallsH Tryz.prog 86 [ptrD cb, .agg (msgC m ms).toArray] H fun r H' => r = .bool (dec (countsP K c.t c.v.dir m)) ∧ Ext H H' := by
  refine CallsH.enter h86 Tryz.func86 rfl rfl rfl (by decide) fun u => run ?_
  refine RegS.boxA fun H1 x1 z1 b1 => ?_
  have b1 : Blk H1 H.size 38 (msgC m ms) := b1
  have st1 : Step (fun _ => False) H O H1 O := x1.step hw
  have h1 := h.step st1 id id id id id
  have hb1 := h1.at_.blk
  have hm1 := hm.ext x1
  refine run ?_
  refine Wp.br (fun hp => ?_) (fun hp => ?_)
  · have hp : c.t.phase = 1 := hp
    refine run ?_
    refine ret1 ⟨congrArg Value.bool (dec_congr ⟨fun k => .inl ⟨hp, k⟩, fun k => ?_⟩), x1⟩
    rcases k with k | k | k
    · exact k.2
    · exact absurd (hp.symm.trans k.1) (by decide)
    · exact absurd (hp.symm.trans k.1) (by decide)
  have hp1 : ¬ c.t.phase = 1 := hp
  refine run ?_
  refine Wp.br (fun hp => ?_) (fun hp => ?_)
  · have hp : c.t.phase = 3 := hp
    refine run ?_
    refine ret1 ⟨congrArg Value.bool (dec_congr ⟨fun k => .inr (.inl ⟨hp, k⟩), fun k => ?_⟩), x1⟩
    rcases k with k | k | k
    · exact absurd k.1 hp1
    · exact k.2
    · exact absurd (hp.symm.trans k.1) (by decide)
  have hp3 : ¬ c.t.phase = 3 := hp
  refine run ?_
  refine Wp.br (fun hp => ?_) (fun hp => ?_)
  case refine_2 =>
    have hp4 : ¬ c.t.phase = 4 := hp
    have hno : ¬ countsP K c.t c.v.dir m := fun k => by rcases k with k | k | k; exact hp1 k.1; exact hp3 k.1; exact hp4 k.1
    refine run ?_
    exact ret1 ⟨by rw [dec_neg hno], x1⟩
  have hp4 : c.t.phase = 4 := hp
  have four : countsP K c.t c.v.dir m ↔ ((c.t.sort = 2 ∧ m.kind = 9) ∨ (c.t.sort = 3 ∧ m.kind = 9 ∧ m.src = c.t.target) ∨ (c.t.sort ≠ 2 ∧ c.t.sort ≠ 3 ∧ m.kind = 10 ∧ m.heads = c.v.dir ∧ m.data.length = colsA K c.v.dir)) :=
    ⟨fun k => by rcases k with k | k | k; exact absurd k.1 hp1; exact absurd k.1 hp3; exact k.2, fun k => .inr (.inr ⟨hp4, k⟩)⟩
  rw [dec_congr four]
  refine run ?_
  refine Wp.br (fun hs => ?_) (fun hs => ?_)
  · have hs : c.t.sort = 2 := hs
    refine run ?_
    refine ret1 ⟨congrArg Value.bool (dec_congr ⟨fun k => .inl ⟨hs, k⟩, fun k => ?_⟩), x1⟩
    rcases k with k | k | k
    · exact k.2
    · exact absurd (hs.symm.trans k.1) (by decide)
    · exact absurd hs k.1
  have hs2 : ¬ c.t.sort = 2 := hs
  refine run ?_
  refine Wp.br (fun hs => ?_) (fun hs => ?_)
  · have hs : c.t.sort = 3 := hs
    by_cases hk : m.kind = ((9 : Nat) : Int)
    · refine run ?_
      refine ret1 ⟨congrArg Value.bool (dec_congr ⟨fun k => .inr (.inl ⟨hs, hk, k⟩), fun k => ?_⟩), x1⟩
      rcases k with k | k | k
      · exact absurd k.1 hs2
      · exact k.2.2
      · exact absurd hs k.2.1
    · refine run ?_
      refine ret1 ⟨?_, x1⟩
      have hno : ¬ ((c.t.sort = 2 ∧ m.kind = 9) ∨ (c.t.sort = 3 ∧ m.kind = 9 ∧ m.src = c.t.target) ∨ (c.t.sort ≠ 2 ∧ c.t.sort ≠ 3 ∧ m.kind = 10 ∧ m.heads = c.v.dir ∧ m.data.length = colsA K c.v.dir)) := fun k => by
        rcases k with k | k | k
        · exact hs2 k.1
        · exact hk k.2.1
        · exact k.2.1 hs
      rw [dec_neg hno]
      rfl
  have hs3 : ¬ c.t.sort = 3 := hs
  have last : ((c.t.sort = 2 ∧ m.kind = 9) ∨ (c.t.sort = 3 ∧ m.kind = 9 ∧ m.src = c.t.target) ∨ (c.t.sort ≠ 2 ∧ c.t.sort ≠ 3 ∧ m.kind = 10 ∧ m.heads = c.v.dir ∧ m.data.length = colsA K c.v.dir)) ↔ (m.kind = 10 ∧ m.heads = c.v.dir ∧ m.data.length = colsA K c.v.dir) :=
    ⟨fun k => by rcases k with k | k | k; exact absurd k.1 hs2; exact absurd k.1 hs3; exact k.2.2, fun k => .inr (.inr ⟨hs2, hs3, k⟩)⟩
  rw [dec_congr last]
  by_cases hk : m.kind = ((10 : Nat) : Int)
  case neg =>
    refine run ?_
    exact ret1 ⟨by rw [dec_neg fun k => hk k.1], x1⟩
  refine run ?_
  refine RegP.call (view_ok c.v hn st1.wf h1.at_.book h1.is) ?_
  rintro _ H2 ⟨k, rfl, hkv, x2, g1, g2, g3, nw⟩
  refine ⟨.inl x2, ?_⟩
  have st2 : Step (fun _ => False) H1 O H2 O := x2.step st1.wf
  have h2 := h1.step st2 id id id id id
  have b2 := b1.ext x2
  have hm2 := hm1.ext x2
  have hda := hm2.da
  have hfl := hf.hl
  refine run ?_
  refine RegP.call (eqHeads_ok ms.hd k.dir m.heads c.v.dir hm2.hd hkv.dir (by omega)) ?_
  rintro _ _ ⟨rfl, rfl⟩
  refine ⟨.inl (Ext.refl _), ?_⟩
  by_cases hhd : m.heads = c.v.dir
  case neg =>
    rw [dec_neg hhd]
    refine run ?_
    exact ret1 ⟨by rw [dec_neg fun k => hhd k.2.1], x1.trans x2⟩
  rw [dec_pos hhd]
  refine run ?_
  refine RegP.call (coColumns_ok hn hK0 hK st2.wf h2) ?_
  rintro _ H3 ⟨rfl, x3⟩
  refine ⟨.inl x3, ?_⟩
  refine run ?_
  refine ret1 ⟨congrArg Value.bool (dec_congr ⟨fun k => ⟨hk, hhd, by
    have k : (m.data.length : Int) = (colsA K c.v.dir : Int) := k
    omega⟩, fun k => ?_⟩), (x1.trans x2).trans x3⟩
  show (m.data.length : Int) = (colsA K c.v.dir : Int)
  rw [k.2.2]
end
end Go.Proofs.YtaikdcnifijcoaaGreat
set_option linter.unusedVariables false
set_option linter.unusedSimpArgs false
namespace Go.Proofs.YtaikdcnifijcoaaGreat
open Go Go.Vc Go.Gf
section
variable {S : Nat → Prop} {H H' A B : Heap} {O O' OA : Ow} {cb fb bb sb N T K E R : Nat} {down : Bool} {c : CSt} {ts : TaskS}
/-- Those who have not answered, asked again. -/
def cTick (down : Bool) (c : CSt) : List MsgA := if (down || c.s.pw.gone) = true ∨ c.t.kind = 0 then [] else askL c.t c.v (askWho c.t)
theorem idle_iff {b : Bool} {k : Int} : (b || dec (k = 0)) = true ↔ b = true ∨ k = 0 := by
  by_cases hk : k = 0
  · rw [dec_pos hk]; simp [hk]
  · rw [dec_neg hk]; simp [hk]
theorem askWho_in (h : TaskOk N c.t) : InN N (askWho c.t) := by
  unfold askWho
  split
  · exact h.dealers
  · exact h.parts
theorem coTick_ok (hn : N ≤ 255) (hw : WfO H O) (h : CoIs H O cb fb bb sb N T K E R down c ts) (hgs : Rest c.t ts) : CallsH Tryz.prog 30 [ptrD cb] H fun r H' => ∃ (w : Sl) (L : List MsgP), r = w.val ∧ MsgRo H' O w L ∧ L.map (·.1) = cTick down c ∧ Ext H H' := by
  refine CallsH.enter h30 Tryz.func30 rfl rfl rfl (by decide) fun u => run ?_
  refine RegS.call (coIdle_ok h.at_) ?_
  rintro _ _ ⟨rfl, rfl⟩
  cases hi : (down || c.s.pw.gone || dec (c.t.kind = 0)) with
  | true =>
    refine run ?_
    exact ret1 ⟨Sl.nil, [], rfl, MsgRo.nil _ _, by rw [cTick, if_pos (idle_iff.1 hi)]; rfl, Ext.refl _⟩
  | false =>
    have hk : c.t.kind ≠ 0 := fun e => by rw [dec_pos e] at hi; simp at hi
    obtain ⟨mb, hmb⟩ := Option.isSome_iff_exists.1 (hgs hk).1
    have hgot := h.at_.task.got
    rw [hmb] at hgot
    obtain ⟨l, gr⟩ := hgot
    have hin := askWho_in h.ok
    refine run ?_
    refine RegS.call (coAsk_ok c.v mb l hn hw h.at_ h.is hmb gr (by have := h.ok.phase; omega) (by have := h.ok.parts.len; omega) (by have := h.ok.dealers.len; omega) hin.mem) ?_
    rintro _ H1 ⟨w, L, rfl, hL, eL, x1, gw, gm⟩
    refine run ?_
    exact ret1 ⟨w, L, rfl, msgRo_new hw hL gw gm, by rw [cTick, if_neg (fun k => by have := idle_iff.2 k; rw [hi] at this; cases this)]; exact eL, x1⟩
def cOn (down : Bool) (N m : Nat) (c : CSt) : COut := match c.t.queue with
  | [] => ({ ansE 0 with list := c.t.list }, [], { c with t := task0 })
  | q :: r => cRecover down N m q { c with t := { c.t with queue := r } }
set_option maxHeartbeats 8000000 in
theorem coOn_ok (hn : N ≤ 255) (hT : T ≤ 255) (hK : K ≤ 255) (hE : E ≤ 255) (hw : WfO H O) (h : CoIs H O cb fb bb sb N T K E R down c ts) :
    CallsH Tryz.prog 154 [ptrD cb] H (OutR H O cb fb bb sb N T K E R down (cOn down N (T + K + E) c)) := by
  refine CallsH.enter h154 Tryz.func154 rfl rfl rfl (by decide) fun u => run ?_
  refine RegS.allocA fun H1 x1 z1 b1 => ?_
  have b1 : Blk H1 H.size 51 (ansC ans0 ansS0) := b1
  obtain ⟨k9, O1, hk9, hno, st1, ho⟩ := cell_new hw x1 z1
  have h1 := h.step st1 id id id id id
  have hb1 := h1.at_.blk
  have s1 : Step (fun x => Co x ∨ x = k9) H O H1 O1 := w0 st1
  have hq1 := h1.at_.task.queue
  have hqr := hq1.row
  have hli := h1.at_.task.list
  cases hq : c.t.queue with
  | nil =>
    have hqr : RowF IV 0 H1 ts.queue [] := by rw [← hq]; exact hqr
    rw [cOn, hq]
    refine run ?_
    refine Wp.br (fun _ => ?_) (fun h => absurd rfl h)
    refine run ?_
    refine RegS.call (coEndR_ok (e := 0) st1.wf h1) ?_
    rintro _ H2 ⟨sa, w', L, O2, ts2, rfl, ha, hm, hL, st2, h2, hg2⟩
    have h2 : CoIs H2 O2 cb fb bb sb N T K E R down { c with t := task0 } ts2 := h2
    have ha : AnsRo H2 O2 (ansE 0) sa := ha
    have hl2 := hli.step st2 co0
    have s2 := s1.trans (wC st2)
    have kb2 := b1.step st2 (by rw [ho]; exact co_no hk9)
    have ho2 := st2.own b1.lt ho
    refine run ?_
    refine RegS.allocA fun A3 y3 v3 q3 => ?_
    have q3 : Blk A3 H2.size 51 (ansC ans0 ansS0) := q3
    have t3 : Step (fun _ => False) H2 O2 A3 (O2.give (fun x => x = H2.size) k9) := (y3.step st2.wf).give fun x hx => by omega
    have oq : (O2.give (fun x => x = H2.size) k9) H2.size = k9 := Ow.give_pos rfl
    generalize O2.give (fun x => x = H2.size) k9 = O3 at t3 oq
    have h3 := h2.step t3 id id id id id
    have a3 := ha.step t3 id
    have l3 := hl2.step t3 id
    have k3 := kb2.step t3 id
    have ho3 := t3.own kb2.lt ho2
    have lk2 := kb2.lt
    refine run ?_
    refine RegS.storeA (us := ansC (ansE 0) sa) q3 ?_
    obtain ⟨q4, t4⟩ := cell_set (ansC (ansE 0) sa) t3.wf q3 oq rfl
    have h4 := h3.step t4 (by omega) (by omega) (by omega) (by omega) (by omega)
    have a4 := a3.step t4 (by omega)
    have l4 := l3.step t4 (by omega)
    have k4 := k3.chg (hsets_chg H2.size (ansC (ansE 0) sa) 0 A3) (by omega)
    generalize hsets A3 H2.size 0 (ansC (ansE 0) sa) = H4 at q4 t4 h4 a4 l4 k4 ⊢
    refine run ?_
    refine RegS.store (v := ts.list.val) (Blk.wr q4 (j := 4) (by simp)) ?_
    have q5 : Blk (hset H4 ⟨H2.size, 4, none⟩ ts.list.val) H2.size 51 (ansC { ansE 0 with list := c.t.list } ⟨sa.data, sa.heads, ts.list⟩) := Blk.set (j := 4) (v := ts.list.val) q4
    have c5 : Chg (· = H2.size) H4 (hset H4 ⟨H2.size, 4, none⟩ ts.list.val) := hset_chg H4 ⟨H2.size, 4, none⟩ ts.list.val
    have t5 : Step (· = k9) H4 O3 (hset H4 ⟨H2.size, 4, none⟩ ts.list.val) O3 := c5.step t4.wf fun x _ e => by subst e; exact oq
    have h5 := h4.step t5 (by omega) (by omega) (by omega) (by omega) (by omega)
    have a5 := a4.step t5 (by omega)
    have l5 := l4.step t5 (by omega)
    have k5 := k4.chg c5 (by omega)
    generalize hset H4 ⟨H2.size, 4, none⟩ ts.list.val = H5 at q5 c5 t5 h5 a5 l5 k5 ⊢
    refine run ?_
    refine RegS.storeA (us := ansC { ansE 0 with list := c.t.list } ⟨sa.data, sa.heads, ts.list⟩) k5 ?_
    obtain ⟨b6, t6⟩ := cell_set (ansC { ansE 0 with list := c.t.list } ⟨sa.data, sa.heads, ts.list⟩) t5.wf k5 ho3 rfl
    have h6 := h5.step t6 (by omega) (by omega) (by omega) (by omega) (by omega)
    have a6 := a5.step t6 (by omega)
    have l6 := l5.step t6 (by omega)
    generalize hsets H5 H.size 0 (ansC { ansE 0 with list := c.t.list } ⟨sa.data, sa.heads, ts.list⟩) = H6 at b6 t6 h6 a6 l6 ⊢
    have wk : ∀ {X Y : Heap} {P Q : Ow}, Step (· = k9) X P Y Q → Step (fun x => Co x ∨ x = k9) X P Y Q := fun h => h.mono fun x e => .inr e
    have sF := (((s2.trans (w0 t3)).trans (wk t4)).trans (wk t5)).trans (wk t6)
    refine run ?_
    exact retcA (cs := ansC { ansE 0 with list := c.t.list } ⟨sa.data, sa.heads, ts.list⟩) b6 ⟨⟨sa.data, sa.heads, ts.list⟩, Sl.nil, [], O3, ts2, rfl, ⟨a6.data, a6.heads, l6⟩, MsgRo.nil _ _, rfl, Step.drop sF fun b hb hS => hS.elim id fun e => absurd e (hno b hb), h6, fun hk => absurd rfl hk⟩
  | cons q r =>
    have hqr : RowF IV 0 H1 ts.queue (q :: r) := by rw [← hq]; exact hqr
    rw [cOn, hq]
    refine run ?_
    have hql := hqr.len
    rw [List.length_cons] at hql
    have hqin := h.ok.queue.mem q (by rw [hq]; simp)
    refine Wp.br (fun h => absurd (show (((q :: r).length : Nat) : Int) = ((0 : Nat) : Int) from h) (by simp only [List.length_cons]; omega)) (fun _ => ?_)
    refine run ?_
    refine RegS.cut (s := ts.queue) 1 ts.queue.len ts.queue.cap (.inr ⟨_, _, rfl, rfl⟩) (.inl ⟨rfl, rfl, rfl⟩) (.inl ⟨rfl, rfl⟩) ⟨by omega, ts.queue.le, Nat.le_refl _⟩ ?_
    refine run ?_
    have hcut : RowF IV 0 H1 (ts.queue.cut 1 ts.queue.len ts.queue.cap) r := by
      have := hqr.cut (l := 1) (h := ts.queue.len) (m := ts.queue.cap) ⟨by omega, ts.queue.le, Nat.le_refl _⟩ (by rw [List.length_cons]; omega)
      rw [List.take_of_length_le (by rw [List.length_cons]; omega)] at this
      exact this
    have hro : RoF IV 0 H1 O1 (ts.queue.cut 1 ts.queue.len ts.queue.cap) r := ⟨hcut, fun hp b hb' => hq1.ro (by omega) b (Sl.cut_blk hb')⟩
    generalize ts.queue.cut 1 ts.queue.len ts.queue.cap = qs at hcut hro ⊢
    refine RegS.store (v := qs.val) (Blk.wr hb1 (j := 17) (by simp)) ?_
    have b2 : Blk (hset H1 ⟨cb, 17, none⟩ qs.val) cb 122 (coordC N T K E R fb bb { c.t with queue := r } { ts with queue := qs }) := Blk.set (j := 17) (v := qs.val) hb1
    have c2 : Chg (· = cb) H1 (hset H1 ⟨cb, 17, none⟩ qs.val) := hset_chg H1 ⟨cb, 17, none⟩ qs.val
    have ht1 := h1.at_.task
    obtain ⟨h2, st2⟩ := h1.at_.turn (t' := { c.t with queue := r }) (ts' := { ts with queue := qs }) st1.wf c2 b2 ⟨ht1.parts, ht1.dealers, ht1.list, hro, ht1.got⟩
    have k2 := b1.step st2 (by omega)
    generalize hset H1 ⟨cb, 17, none⟩ qs.val = H2 at b2 c2 h2 st2 k2 ⊢
    have hqi : InN N r := ⟨by have := h.ok.queue.len; rw [hq, List.length_cons] at this; omega, fun n hn' => h.ok.queue.mem n (by rw [hq]; exact List.mem_cons_of_mem _ hn')⟩
    have h2 : CoIs H2 O1 cb fb bb sb N T K E R down { c with t := { c.t with queue := r } } { ts with queue := qs } := ⟨h2, h1.is, ⟨h1.ok.phase, h1.ok.parts, h1.ok.dealers, hqi, h1.ok.got, h1.ok.keys⟩⟩
    have s2 := s1.trans (wC (st2.mono fun x e => by subst e; exact ⟨by omega, by omega⟩))
    refine run ?_
    refine RegS.call (coRecover_ok q (by omega) hn hT hK hE st2.wf h2) ?_
    rintro rr B hr
    obtain ⟨sa, w', rfl, kB, b4, hout⟩ := OutR.close s2 hno hr k2 ho hk9 rfl
    refine run ?_
    refine RegS.storeA (us := ansC (cRecover down N (T + K + E) q { c with t := { c.t with queue := r } }).1 sa) kB ?_
    generalize hsets B H.size 0 (ansC (cRecover down N (T + K + E) q { c with t := { c.t with queue := r } }).1 sa) = BB at b4 hout ⊢
    refine run ?_
    exact retcA b4 hout
end
end Go.Proofs.YtaikdcnifijcoaaGreat
set_option linter.unusedVariables false
set_option linter.unusedSimpArgs false
namespace Go.Proofs.YtaikdcnifijcoaaGreat
open Go Go.Vc Go.Gf
theorem isFound.hs {N T K E : Nat} {cols : Int} {fl : List Int} {rows : List (List UInt8)} {hs : List Nat} {qs : List (List UInt8)} (h : isFound N T K E cols fl rows hs qs) : hs = fl.map Int.toNat := by
  rw [h.1, List.map_map]
  simp [Function.comp_def]
theorem isFound.one {N T K E : Nat} {cols : Int} {fl : List Int} {rows : List (List UInt8)} {hs hs' : List Nat} {qs qs' : List (List UInt8)} (h : isFound N T K E cols fl rows hs qs) (h' : isFound N T K E cols fl rows hs' qs') : hs = hs' ∧ qs = qs' := by
  have e : hs = hs' := h.hs.trans h'.hs.symm
  subst e
  exact ⟨rfl, h.2.2.2.one h'.2.2.2⟩
end Go.Proofs.YtaikdcnifijcoaaGreat
set_option linter.unusedVariables false
set_option linter.unusedSimpArgs false
set_option linter.unusedVariables false
set_option linter.unusedSimpArgs false
namespace Go.Proofs.YtaikdcnifijcoaaGreat
open Go Go.Vc Go.Gf
/-- Whose share was turned. -/
def turned (P : List (List UInt8)) (tn : Nat → List UInt8) (h : Nat) : Bool := decide (tn h ≠ shareL P h)
theorem offs_len (h : Nat) (hs : List Nat) (rows qs : List (List UInt8)) : (offs h hs rows qs).length ≤ h := by
  unfold offs
  have := List.length_filter_le (fun x => @decide (Off hs rows qs x) (Classical.propDecidable _)) (List.range h)
  rwa [List.length_range] at this
end Go.Proofs.YtaikdcnifijcoaaGreat
