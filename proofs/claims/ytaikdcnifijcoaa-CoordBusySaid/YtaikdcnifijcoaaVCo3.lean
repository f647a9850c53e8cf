/-
  The walks of package coord: who is up, an object's head.
-/
import Derived.Test.YtaikdcnifijcoaaVCo2
set_option linter.unusedVariables false
set_option linter.unusedSimpArgs false
namespace Go.Proofs.Ytaikdcnifijcoaa
open Go Go.Vc Go.Gf
variable {H : Heap} {O : Ow} {cb fb bb sb N T K E R : Nat} {down : Bool} {s : Slt} {t : TaskA} {ts : TaskS}
set_option maxHeartbeats 2000000 in
theorem coUp_ok (v : BookA) (but : Int) (hbut : -9223372036854775808 ≤ but ∧ but ≤ 9223372036854775807) (hn : N ≤ 255) (hw : WfO H O) (h : CoAt H O cb fb bb sb N T K E R down s t ts) (hv : BkIs N s v) :
    CallsH Try.prog 17 [ptrD cb, IV but] H fun r H' => ∃ w : Sl, r = w.val ∧ RowF IV 0 H' w (upL v.up but N) ∧ Ext H H' ∧ ∀ b, w.blk = some b → H.size ≤ b := by
  have hb := h.blk
  have hup := hv.fit.up
  refine CallsH.enter h17 Try.func17 rfl rfl rfl (by decide) fun u => run ?_
  refine RegS.call (view_ok v hn hw h.book hv) ?_
  rintro _ H1 ⟨c, rfl, hi, x1, g1, g2, g3, nw⟩
  have hiu := hi.up
  have z1 := x1.size
  refine run ?_
  refine Wp.loop (ι := Nat × Sl) (fun i => [(0, ptrD cb), (1, IV but), (5, i.2.val), (13, c.up.val), (14, I64 v.up.length), (15, I64 i.1)]) (fun i A => i.1 ≤ N ∧ OwnF IV A H1.size 3 i.2 (upL v.up but i.1) ∧ Ext H1 A) (fun i => N - i.1) (0, Sl.nil) subs ⟨Nat.zero_le _, OwnR.nil _ _ _ _, Ext.refl _⟩ ?_
  rintro ⟨i, a⟩ A ⟨hi1, oA, xA⟩
  have hi1 : i ≤ N := hi1
  have oA : OwnF IV A H1.size 3 a (upL v.up but i) := oA
  have uA := hi.up.ext xA
  have hll := upL_len v.up but i
  have zA := xA.size
  have hsu := upL_succ v.up but i
  show Wp _ _ _ [(0, ptrD cb), (1, IV but), (5, a.val), (13, c.up.val), (14, I64 v.up.length), (15, I64 i)] _ _
  refine run ?_
  refine Wp.br (fun hlt => ?_) (fun hlt => ?_)
  · have hlt : (i : Int) < (v.up.length : Int) := hlt
    refine run ?_
    cases hu : v.up.getD i false with
    | false =>
      rw [hu, if_neg (by simp), List.append_nil] at hsu
      refine run ?_
      exact roundQ_n (i + 1, a) subs ⟨by show i + 1 ≤ N; omega, by show OwnF IV A H1.size 3 a (upL v.up but (i + 1)); rw [hsu]; exact oA, xA⟩ (by show N - (i + 1) < N - i; omega)
    | true =>
      rw [hu] at hsu
      refine run ?_
      refine Wp.br (fun hne => ?_) (fun hne => ?_)
      · have hne : (i : Int) ≠ but := hne
        rw [if_pos ⟨rfl, hne⟩] at hsu
        refine run ?_
        refine RegS.buildSlice fun A2 o2 y2 w2 => ?_
        have r2 : RowF IV 0 A2 (Sl.fresh A.size 1) [(i : Int)] := OwnR.rowF (f := IV) (l := [(i : Int)]) o2
        refine run ?_
        refine RegS.append (f := IV) (oA.ext y2) r2 (fun _ => rfl) (by have := y2.size; omega) ?_ ?_ ?_
        · simp only [List.length_singleton]; omega
        · simp only [List.length_singleton]; omega
        intro a' A3 o3 c3 b3
        refine run ?_
        exact roundQ_n (i + 1, a') subs ⟨by show i + 1 ≤ N; omega, by show OwnF IV A3 H1.size 3 a' (upL v.up but (i + 1)); rw [hsu]; exact o3, (xA.trans y2).then c3 fun b hb => (OwnR.blk_ge oA hb).1⟩ (by show N - (i + 1) < N - i; omega)
      · have hne : ¬ (i : Int) ≠ but := hne
        rw [if_neg fun h => hne h.2, List.append_nil] at hsu
        refine run ?_
        exact roundQ_n (i + 1, a) subs ⟨by show i + 1 ≤ N; omega, by show OwnF IV A H1.size 3 a (upL v.up but (i + 1)); rw [hsu]; exact oA, xA⟩ (by show N - (i + 1) < N - i; omega)
  · have hlt : ¬ (i : Int) < (v.up.length : Int) := hlt
    have hie : i = N := by omega
    subst hie
    refine run ?_
    exact ret1 ⟨a, rfl, OwnR.rowF oA, x1.trans xA, fun b hb => by have := (OwnR.blk_ge oA hb).1; omega⟩
/-- An object's place. -/
def AtR (l : List HdT) (id : List UInt8) (r : Int) : Prop := (∃ i : Nat, r = i ∧ i < l.length ∧ (l.getD i ([], 0)).1 = id ∧ ∀ j, j < i → (l.getD j ([], 0)).1 ≠ id) ∨ (r = -1 ∧ ∀ j, j < l.length → (l.getD j ([], 0)).1 ≠ id)
theorem cofind_fn {ib : Nat} (x : HdT) (id : List UInt8) (hi : Box H ib 9 (S id)) : CallsH Try.prog 63 [.agg #[S x.1, IV x.2], ptrD ib] H fun r H' => r = .bool (dec (x.1 = id)) ∧ Ext H H' := by
  refine CallsH.enter h63 Try.func63 rfl rfl rfl (by decide) fun u => run ?_
  refine RegS.boxA (cs := [S x.1, IV x.2]) fun H1 x1 z1 b1 => ?_
  have i1 := hi.ext x1
  refine run ?_
  exact ret1 ⟨rfl, x1⟩
set_option maxHeartbeats 2000000 in
theorem indexFn_ok {ib : Nat} (sl : Sl) (l : List HdT) (id : List UInt8) (hl : HRow H sl l) (hll : l.length ≤ 1000) (hi : Box H ib 9 (S id)) :
    CallsH Try.prog 62 [sl.val, .func (.func 63) #[] #[ptrD ib]] H fun r H' => (∃ i : Int, r = IV i ∧ AtR l id i) ∧ Ext H H' := by
  refine CallsH.enter h62 Try.func62 rfl rfl rfl (by decide) fun u => run ?_
  refine Wp.loop (ι := Nat) (fun i => [(0, sl.val), (1, .func (.func 63) #[] #[ptrD ib]), (7, I64 l.length), (8, I64 i)]) (fun i A => i ≤ l.length ∧ (∀ j, j < i → (l.getD j ([], 0)).1 ≠ id) ∧ Ext H A) (fun i => l.length - i) 0 subs ⟨Nat.zero_le _, fun j hj => absurd hj (Nat.not_lt_zero j), Ext.refl _⟩ ?_
  rintro i A ⟨hi1, hne, xA⟩
  have lA := hl.ext xA
  have iA := hi.ext xA
  refine run ?_
  refine Wp.br (fun hlt => ?_) (fun hlt => ?_)
  · have hlt : (i : Int) < (l.length : Int) := hlt
    refine run ?_
    refine RegS.call (cofind_fn (l.getD i ([], 0)) id iA) ?_
    rintro _ A1 ⟨rfl, y1⟩
    refine run ?_
    refine Wp.br (fun he => ?_) (fun he => ?_)
    · have he : (l.getD i ([], 0)).1 = id := he
      refine run ?_
      exact ret1 ⟨⟨i, rfl, .inl ⟨i, rfl, by omega, he, hne⟩⟩, xA.trans y1⟩
    · have he : ¬ (l.getD i ([], 0)).1 = id := he
      refine run ?_
      exact roundQ_n (i + 1) subs ⟨by omega, fun j hj => by
        rcases Nat.lt_succ_iff_lt_or_eq.1 hj with h | rfl
        · exact hne j h
        · exact he, xA.trans y1⟩ (by omega)
  · have hlt : ¬ (i : Int) < (l.length : Int) := hlt
    have hie : i = l.length := by omega
    subst hie
    refine run ?_
    exact ret1 ⟨⟨-1, rfl, .inr ⟨rfl, hne⟩⟩, xA⟩
abbrev hdA (x : HdT) : Value := .agg #[S x.1, IV x.2]
set_option maxHeartbeats 2000000 in
theorem coFind_ok (v : BookA) (id : List UInt8) (hn : N ≤ 255) (hw : WfO H O) (h : CoAt H O cb fb bb sb N T K E R down s t ts) (hv : BkIs N s v) :
    CallsH Try.prog 32 [ptrD cb, S id] H fun r H' => (∃ i : Int, AtR v.dir id i ∧ (i < 0 → r = .tuple #[hdA ([], 0), .bool false]) ∧ (0 ≤ i → r = .tuple #[hdA (v.dir.getD i.toNat ([], 0)), .bool true])) ∧ Ext H H' := by
  have hdl := hv.fit.dir
  refine CallsH.enter h32 Try.func32 rfl rfl rfl (by decide) fun u => run ?_
  refine RegS.box fun H1 x1 z1 b1 => ?_
  have b1 : Box H1 H.size 9 (S id) := ⟨b1⟩
  refine run ?_
  refine RegS.allocA fun H2 x2 z2 b2 => ?_
  have b2 : Blk H2 H1.size 55 [S [], IV 0] := b2
  have x02 := x1.trans x2
  have w2 := hw.ext x02
  have h2 := h.ext hw x02
  have hb2 := h2.blk
  refine run ?_
  refine RegS.call (view_ok v hn w2 h2.book hv) ?_
  rintro _ H3 ⟨c, rfl, hi, x3, g1, g2, g3, nw⟩
  have hd3 := hi.dir
  have i3 := (b1.ext x2).ext x3
  have c3 := b2.ext x3
  refine run ?_
  refine RegS.call (indexFn_ok c.dir v.dir id hd3 (by omega) i3) ?_
  rintro _ H4 ⟨⟨i, rfl, hat⟩, x4⟩
  have hd4 := hd3.ext x4
  have c4 := c3.ext x4
  have x24 := x3.trans x4
  have lt2 := b2.lt
  refine run ?_
  refine Wp.br (fun hlt => ?_) (fun hlt => ?_)
  · have hlt : i < 0 := hlt
    refine run ?_
    refine RegS.storeA (us := [S [], IV 0]) c4 ?_
    obtain ⟨b5, x5⟩ := Blk.lay [S [], IV 0] c4 (x02.trans x24) (by omega) rfl
    generalize hsets H4 H1.size 0 [S [], IV 0] = H5 at b5 x5 ⊢
    refine run ?_
    exact retcA (cs := [S [], IV 0]) b5 ⟨⟨i, hat, fun _ => rfl, fun h => absurd hlt (by omega)⟩, x5⟩
  · have hlt : ¬ i < ((0 : Nat) : Int) := hlt
    obtain ⟨j, rfl, hj, hid, hne⟩ : ∃ j : Nat, i = j ∧ j < v.dir.length ∧ (v.dir.getD j ([], 0)).1 = id ∧ ∀ k, k < j → (v.dir.getD k ([], 0)).1 ≠ id := by
      rcases hat with h | h
      · exact h
      · exact absurd h.1 (by omega)
    refine run ?_
    refine RegS.storeA (us := [S (v.dir.getD j ([], 0)).1, IV (v.dir.getD j ([], 0)).2]) c4 ?_
    obtain ⟨b5, x5⟩ := Blk.lay [S (v.dir.getD j ([], 0)).1, IV (v.dir.getD j ([], 0)).2] c4 (x02.trans x24) (by omega) rfl
    generalize hsets H4 H1.size 0 [S (v.dir.getD j ([], 0)).1, IV (v.dir.getD j ([], 0)).2] = H5 at b5 x5 ⊢
    refine run ?_
    exact retcA (cs := [S (v.dir.getD j ([], 0)).1, IV (v.dir.getD j ([], 0)).2]) b5 ⟨⟨j, hat, fun h => absurd h (by omega), fun _ => rfl⟩, x5⟩
end Go.Proofs.Ytaikdcnifijcoaa
