/-
  The law ClientOnce, walked: of one holder's shares the first one counts.
-/
import Derived.Test.YtgmemfcfjlndoaaGreatVClient5
import Derived.Test.YtgmemfcfjlndoaaGreatVLaw20
import Derived.Test.YtgmemfcfjlndoaaGreatVOpenK
import Derived.Test.YtgmemfcfjlndoaaGreatVMsgL
set_option linter.unusedVariables false
set_option linter.unusedSimpArgs false
namespace Go.Proofs.YtgmemfcfjlndoaaGreat
open Go Go.Vc Go.Gf

theorem out20f {H A : Heap} (x : Ext H A) : CallsH Tryz.prog 11 [] A fun v H' => v = .bool true ∧ Ext H H' :=
  (answers20_ok A).mono fun v H' h => ⟨h.1, x.trans h.2⟩
open Classical in
/-- The polynomials of shares, if there are any. -/
noncomputable def foundC (N T K E : Nat) (cols : Int) (fl : List Int) (rows : List (List UInt8)) : Option (List (List UInt8)) :=
  if h : ∃ qs hs, isFound N T K E cols fl rows hs qs then some h.choose else none
theorem foundC_some {N T K E : Nat} {cols : Int} {fl : List Int} {rows : List (List UInt8)} {hs : List Nat} {qs : List (List UInt8)} (h : isFound N T K E cols fl rows hs qs) : foundC N T K E cols fl rows = some qs := by
  have h' : ∃ qs hs, isFound N T K E cols fl rows hs qs := ⟨qs, hs, h⟩
  rw [foundC, dif_pos h']
  obtain ⟨hs', h2⟩ := h'.choose_spec
  rw [(h2.one h).2]
theorem foundC_none {N T K E : Nat} {cols : Int} {fl : List Int} {rows : List (List UInt8)} (h : ∀ hs qs, ¬ isFound N T K E cols fl rows hs qs) : foundC N T K E cols fl rows = none := by
  rw [foundC, dif_neg]
  rintro ⟨qs, hs, k⟩
  exact h _ _ k
open Classical in
/-- What came, behind a message; and the document, if there is one. -/
noncomputable def takeC (N : Nat) (ses : Int) (cols : Nat) (c : CV) (m : MsgA) : CV := if takeP N ses cols m then cadd c m.src m.data else c
open Classical in
noncomputable def takeV (N T K E size : Nat) (ses : Int) (c : CV) (m : MsgA) : Option (List UInt8) :=
  if takeP N ses (columns size K) m then (foundC N T K E (columns size K : Nat) (keysC (cadd c m.src m.data)) (rowsC (cadd c m.src m.data))).map (docL N K size) else none
theorem take3_ok (N T K E R fb tb cb mb base : Nat) (ses : Int) (dealt : Sl) (size : Nat) (l : SV) (c : CV) (m : MsgA) (ms : MsgS) (H : Heap) (hc : Blk H cb 104 (clientC N T K E R fb tb ses dealt true size (.map (some mb)))) (hm : Came H mb base l c) (hbs : base ≤ H.size) (hF : IsField H fb) (hin : Bytes H ms.da m.data)
    (hl : c.length ≤ 1000) (hT0 : 1 ≤ T) (hT : T ≤ 255) (hK0 : 1 ≤ K) (hK : K ≤ 255) (hE : E ≤ 255) (hN : N ≤ 255) (hd : T + K ≤ 256) (hsz : size ≤ 256) :
    CallsH Tryz.prog 15 [ptrV cb, .agg (msgC m ms).toArray] H fun v H' => ∃ (x : Sl) (l' : SV), v = .tuple #[x.val, .bool (takeV N T K E size ses c m).isSome] ∧ Bytes H' x ((takeV N T K E size ses c m).getD []) ∧ (∀ b, x.blk = some b → base ≤ b) ∧
      Came H' mb base l' (takeC N ses (columns size K) c m) ∧ Chg (fun x => x = mb) H H' := by
  refine (take2_ok N T K E R fb tb cb mb base ses dealt size l c m ms H hc hm hbs hF hin hl hT0 hT hK0 hK hE hN hd hsz).mono ?_
  rintro v H' ⟨k, hr⟩
  have nil : ∀ b, Sl.nil.blk = some b → base ≤ b := fun b hb => by simp [Sl.blk, Sl.nil] at hb
  rcases hr with ⟨hn, rfl, hm'⟩ | ⟨hy, l', hm', ⟨hs, qs, a, hf, rfl, hb, hbb⟩ | ⟨hf, rfl⟩⟩
  · rw [takeV, if_neg hn, takeC, if_neg hn]
    exact ⟨Sl.nil, l, rfl, Bytes.nil _, nil, hm', k⟩
  · rw [takeV, if_pos hy, takeC, if_pos hy, foundC_some hf]
    exact ⟨a, l', rfl, hb, hbb, hm', k⟩
  · rw [takeV, if_pos hy, takeC, if_pos hy, foundC_none hf]
    exact ⟨Sl.nil, l', rfl, Bytes.nil _, nil, hm', k⟩
theorem cadd_there {c : CV} {k : Int} {d d' : List UInt8} : cadd (cadd c k d) k d' = cadd c k d := by
  have there : (cget (cadd c k d) k).isSome = true := by
    unfold cadd
    cases h : cget c k with
    | some x => simp [h]
    | none =>
      simp only [Option.isSome_none, Bool.false_eq_true, if_false]
      have : ∀ (c : CV), cget c k = none → (cget (c ++ [(k, d)]) k).isSome = true := by
        intro c
        induction c with
        | nil => intro _; simp [cget]
        | cons a r ih =>
          intro h
          simp only [cget] at h
          split at h
          · cases h
          · rename_i hne
            simp only [List.cons_append, cget, if_neg hne]
            exact ih h
      exact this c h
  conv => lhs; unfold cadd
  rw [if_pos]
  · rfl
  · exact there
theorem take_again {N T K E size : Nat} {ses : Int} {c : CV} {m : MsgA} {other : List UInt8} (ho : other.length = m.data.length) :
    takeV N T K E size ses (takeC N ses (columns size K) c m) { m with data := other } = takeV N T K E size ses c m ∧ takeC N ses (columns size K) (takeC N ses (columns size K) c m) { m with data := other } = takeC N ses (columns size K) c m := by
  have e : takeP N ses (columns size K) { m with data := other } ↔ takeP N ses (columns size K) m := by simp only [takeP, ho]
  by_cases h : takeP N ses (columns size K) m
  · have h' := e.2 h
    simp only [takeV, takeC, if_pos h, if_pos h', cadd_there, and_self]
  · have h' : ¬ takeP N ses (columns size K) { m with data := other } := fun k => h (e.1 k)
    simp only [takeV, takeC, if_neg h, if_neg h', and_self]
theorem takeC_len {N : Nat} {ses : Int} {cols : Nat} {c : CV} {m : MsgA} : (takeC N ses cols c m).length ≤ c.length + 1 := by
  unfold takeC; split
  · unfold cadd; split <;> simp
  · omega
theorem field_ne {H : Heap} {fb b e : Nat} {n : Int} {vs : List Value} (h : IsField H fb) (k : Blk H b e (IV n :: vs)) : fb ≠ b := fun e' => by
  subst e'
  have h1 := h.exp 0 (by omega)
  have h2 := k.cell (j := 0) (v := IV n) rfl
  rw [h2] at h1
  simp [B8] at h1
theorem dnb (b : Bool) : dec (b ≠ b) = false := dec_neg (by simp)
set_option maxHeartbeats 16000000 in
theorem clientOnce_ok (N T K E R : Int) (s so : Sl) (ls : List MsgP) (other : List UInt8) (session size : Int) (H : Heap) (hs : MsgL H s ls) (hso : Bytes H so other) (hl : ls.length ≤ 9223372036854775807) (hlo : other.length ≤ 140737488351232) (hb1 : -9223372036854775808 ≤ session ∧ session ≤ 9223372036854775807) (hb2 : -9223372036854775808 ≤ size ∧ size ≤ 9223372036854775807) (hp : ∀ x ∈ [N, T, K, E, R], -9223372036854775808 ≤ x ∧ x ≤ 9223372036854775807) :
    CallsH Tryz.prog 4 [pmI N T K E R, IV session, IV size, s.val, so.val] H (Fine20 H) := by
  refine CallsH.enter h4 Tryz.func4 rfl rfl rfl (by decide) fun u => go ?_
  refine RegS.boxA fun H0 x0 z0 b0 => ?_
  refine go ?_
  refine RegS.call (good_ok N T K E R H0) ?_
  rintro _ H1 ⟨rfl, x1⟩
  have b1 := b0.ext x1
  have x01 := x0.trans x1
  have out : ∀ {A : Heap}, Ext H A → CallsH Tryz.prog 11 [] A fun v H' => v = .bool true ∧ Ext H H' := fun x => out20f x
  by_cases hg : GoodP N T K E R
  case neg =>
    rw [dec_neg hg]
    refine go ?_
    refine RegS.call (out x01) ?_
    rintro _ H3 ⟨rfl, e3⟩
    refine go ?_
    exact ret1 ⟨rfl, e3⟩
  rw [dec_pos hg]
  obtain ⟨g1, g2, g3, g4, g5, g6, g7⟩ := hg
  have q0 := g1 0 (by omega)
  have q1 := g1 1 (by omega)
  have q2 := g1 2 (by omega)
  have q3 := g1 3 (by omega)
  simp only [List.getD_cons_zero, List.getD_cons_succ] at q0 q1 q2 q3
  obtain ⟨N, rfl⟩ := Int.eq_ofNat_of_zero_le q0.1
  obtain ⟨T, rfl⟩ := Int.eq_ofNat_of_zero_le q1.1
  obtain ⟨K, rfl⟩ := Int.eq_ofNat_of_zero_le q2.1
  obtain ⟨E, rfl⟩ := Int.eq_ofNat_of_zero_le q3.1
  obtain ⟨R, rfl⟩ := Int.eq_ofNat_of_zero_le (show 0 ≤ R by omega)
  clear g1 hp
  obtain ⟨hrow, heach⟩ := hs
  have hrow1 := hrow.ext x01
  have hcase : ((30 : Int) < N ∨ session = 0 ∨ size < 0 ∨ 60 < size ∨ (40 : Int) < (ls.length : Nat)) ∨ (¬ (30 : Int) < N ∧ ¬ session = 0 ∧ ¬ size < 0 ∧ ¬ 60 < size ∧ ¬ (40 : Int) < (ls.length : Nat)) := by omega
  rcases hcase with hbad | ⟨hN, hses, hs0, hs1, hs2⟩
  · by_cases k1 : (30 : Int) < N
    case' neg =>
      by_cases k2 : session = 0
      case' neg =>
        by_cases k3 : size < 0
        case' neg =>
          by_cases k4 : 60 < size
          case' neg =>
            have k5 : (40 : Int) < (ls.length : Nat) := by omega
    all_goals
      refine run ?_
      refine RegS.call (out x01) ?_
      rintro _ H3 ⟨rfl, e3⟩
      refine run ?_
      exact ret1 ⟨rfl, e3⟩
  obtain ⟨size, rfl⟩ := Int.eq_ofNat_of_zero_le (show 0 ≤ size by omega)
  refine run ?_
  refine RegP.call (clientNew_ok N T K E R H1) ?_
  rintro _ H2 ⟨ca, fa, ta, rfl, hFa, bta, bca, x2, y1, y2, y3⟩
  refine ⟨.inl x2, ?_⟩
  have b2 := b1.ext x2
  refine run ?_
  refine RegP.call (clientNew_ok N T K E R H2) ?_
  rintro _ H3 ⟨cb, fb, tb, rfl, hFb, btb, bcb, x3, w1, w2, w3⟩
  refine ⟨.inl x3, ?_⟩
  have lca := bca.lt
  have lcb := bcb.lt
  have s1 := x01.size
  have s2 := x2.size
  have s3 := x3.size
  have lp := b2.lt
  have b3 := b2.ext x3
  have bca3 := bca.ext x3
  have nfb := field_ne hFb bca3
  refine run ?_
  refine RegS.call (ask_ok N T K E R fa ta ca 0 Sl.nil false 0 (.map none) session size H3 bca3) ?_
  rintro _ H4 ⟨ka4, ma4, c4⟩
  obtain ⟨ma, hma⟩ : ∃ ma, ma = H3.size := ⟨_, rfl⟩
  rw [← hma] at ka4 ma4
  have lma := ma4.lt
  have s4 := c4.size
  have kb4 := bcb.chg c4 (by omega)
  have hFa4 := isField_chg (hFa.ext x3) c4 (by omega)
  have hFb4 := isField_chg hFb c4 nfb
  have x04 : Ext H H4 := ((x01.trans x2).trans x3).then c4 fun b hb => by omega
  have b4 := b3.chg c4 (by omega)
  refine run ?_
  refine RegS.call (ask_ok N T K E R fb tb cb 0 Sl.nil false 0 (.map none) session size H4 kb4) ?_
  rintro _ H5 ⟨kb5, mb5, c5⟩
  obtain ⟨mb, hmb⟩ : ∃ mb, mb = H4.size := ⟨_, rfl⟩
  rw [← hmb] at kb5 mb5
  have lmb := mb5.lt
  have s5 := c5.size
  have ka5 := ka4.chg c5 (by omega)
  have ma5 := ma4.chg c5 (by omega)
  have hFa5 := isField_chg hFa4 c5 (by omega)
  have hFb5 := isField_chg hFb4 c5 (by omega)
  have x05 : Ext H H5 := x04.then c5 fun b hb => by omega
  have b5 := b4.chg c5 (by omega)
  have hcle := columns_le (size := size) (K := K) (by omega)
  obtain ⟨cols, hcols⟩ : ∃ cols, cols = columns size K := ⟨_, rfl⟩
  refine run ?_
  refine Wp.loop (ι := Nat × CV × SV × SV) (fun i => [(1, IV session), (2, I64 size), (3, s.val), (4, so.val), (5, .pointer (some ⟨H.size, 0, none⟩)), (11, ptrV ca), (12, ptrV cb), (13, I64 i.1)])
    (fun i A => i.1 ≤ ls.length ∧ Ext H A ∧ Blk A H.size 23 (pmL N T K E R) ∧ Blk A ca 104 (clientC N T K E R fa ta session Sl.nil true size (.map (some ma))) ∧ Blk A cb 104 (clientC N T K E R fb tb session Sl.nil true size (.map (some mb))) ∧
      IsField A fa ∧ IsField A fb ∧ Came A ma H5.size i.2.2.1 i.2.1 ∧ Came A mb H5.size i.2.2.2 i.2.1 ∧ i.2.1.length ≤ i.1 ∧ H5.size ≤ A.size) (fun i => ls.length - i.1) (0, [], [], []) subs
    ⟨Nat.zero_le _, x05, b5, ka5, kb5, hFa5, hFb5, Came.nil ma5, Came.nil mb5, Nat.le_refl _, Nat.le_refl _⟩ ?_
  rintro ⟨i, c, la, lb⟩ A ⟨hi, xA, bA, kaA, kbA, fA, gA, caA, cbA, hcl, zA⟩
  have hi : i ≤ ls.length := hi
  have hcl : c.length ≤ i := hcl
  have caA : Came A ma H5.size la c := caA
  have cbA : Came A mb H5.size lb c := cbA
  have hrA := hrow.ext xA
  have hme := heach i
  show Wp _ _ _ [(1, IV session), (2, I64 size), (3, s.val), (4, so.val), (5, .pointer (some ⟨H.size, 0, none⟩)), (11, ptrV ca), (12, ptrV cb), (13, I64 i)] _ _
  refine run ?_
  refine Wp.br (fun hlt => ?_) (fun hlt => ?_)
  case refine_2 =>
    refine run ?_
    refine RegS.call (out xA) ?_
    rintro _ H9 ⟨rfl, e9⟩
    refine run ?_
    exact ret1 ⟨rfl, e9⟩
  have hlt : (i : Int) < (ls.length : Int) := hlt
  have hme := hme (by omega)
  refine run ?_
  obtain ⟨pr, hpr⟩ : ∃ pr, pr = ls.getD i (msg0, msgS0) := ⟨_, rfl⟩
  rw [← hpr]
  rw [← hpr] at hme
  have hlen' : pr.2.da.len = pr.1.data.length := hme.da.len
  refine RegS.call (take3_ok N T K E R fa ta ca ma H5.size session Sl.nil size la c pr.1 pr.2 A kaA caA zA fA (hme.da.ext xA) (by omega) (by omega) (by omega) (by omega) (by omega) (by omega) (by omega) (by omega) (by omega)) ?_
  rintro _ A1 ⟨xa, la', rfl, hxa, hxab, caA1, c1'⟩
  have kbA1 := kbA.chg c1' (by omega)
  have kaA1 := kaA.chg c1' (by omega)
  have bA1 := bA.chg c1' (by omega)
  have cbA1 := cbA.low c1' (by omega) (fun b hb => by omega)
  have fA1 := isField_chg fA c1' (by omega)
  have gA1 := isField_chg gA c1' (by omega)
  have xA1 : Ext H A1 := xA.then c1' fun b hb => by omega
  have hrA1 := hrow.ext xA1
  have zA1 := c1'.size
  refine run ?_
  rw [← hpr]
  refine RegS.call (take3_ok N T K E R fb tb cb mb H5.size session Sl.nil size lb c pr.1 pr.2 A1 kbA1 cbA1 (by omega) gA1 (hme.da.ext xA1) (by omega) (by omega) (by omega) (by omega) (by omega) (by omega) (by omega) (by omega) (by omega)) ?_
  rintro _ A2 ⟨xb, lb', rfl, hxb, hxbb, cbA2, c2'⟩
  have kbA2 := kbA1.chg c2' (by omega)
  have kaA2 := kaA1.chg c2' (by omega)
  have bA2 := bA1.chg c2' (by omega)
  have caA2 := caA1.low c2' (by omega) (fun b hb => by omega)
  have fA2 := isField_chg fA1 c2' (by omega)
  have gA2 := isField_chg gA1 c2' (by omega)
  have xA2 : Ext H A2 := xA1.then c2' fun b hb => by omega
  have hrA2 := hrow.ext xA2
  have hxa2 := RowF.chgN hxa c2' fun hp b hb => ⟨RowF.lt hxa hp b hb, fun e => by have := hxab b hb; omega⟩
  have zA2 := c2'.size
  refine run ?_
  rw [dnb]
  refine run ?_
  rw [show dec ((takeV N T K E size session c pr.1).getD [] ≠ (takeV N T K E size session c pr.1).getD []) = false from dec_neg (by simp)]
  refine run ?_
  refine RegS.allocA fun A3 x5 z5 b5' => ?_
  have b5' : Blk A3 A2.size 38 (msgC msg0 msgS0) := b5'
  refine run ?_
  rw [← hpr]
  refine RegS.storeA b5' ?_
  have b6 : Blk (hsets A3 A2.size 0 (msgPC pr)) A2.size 38 (msgPC pr) := Blk.sets (msgPC pr) 0 b5'
  have x56 : Ext A2 (hsets A3 A2.size 0 (msgPC pr)) := x5.then (hsets_chg A2.size (msgPC pr) 0 A3) fun b hb => by omega
  generalize hsets A3 A2.size 0 (msgPC pr) = A4 at b6 x56 ⊢
  obtain ⟨m, ms⟩ := pr
  have b6 : Blk A4 A2.size 38 (msgC m ms) := b6
  have hda : Bytes H ms.da m.data := hme.da
  have hlen' : ms.da.len = m.data.length := hda.len
  have bA4 := bA2.ext x56
  have kaA4 := kaA2.ext x56
  have kbA4 := kbA2.ext x56
  have hdA4 := hda.ext (xA2.trans x56)
  have hoA4 := hso.ext (xA2.trans x56)
  have zA4 := x56.size
  have hcl2 := takeC_len (N := N) (ses := session) (cols := columns size K) (c := c) (m := m)
  have xA4 := xA2.trans x56
  have caA4 := caA2.ext x56
  have cbA4 := cbA2.ext x56
  have fA4 := fA2.ext x56
  have gA4 := gA2.ext x56
  by_cases u1 : m.kind = 4
  case neg =>
    refine run ?_
    exact roundQ_n (i + 1, takeC N session (columns size K) c m, la', lb') subs ⟨by simp only; omega, xA4, bA4, kaA4, kbA4, fA4, gA4, caA4, cbA4, by simp only; omega, by omega⟩ (by simp only; omega)
  by_cases u2 : m.session = session
  case neg =>
    refine run ?_
    exact roundQ_n (i + 1, takeC N session (columns size K) c m, la', lb') subs ⟨by simp only; omega, xA4, bA4, kaA4, kbA4, fA4, gA4, caA4, cbA4, by simp only; omega, by omega⟩ (by simp only; omega)
  refine run ?_
  refine RegP.call (rcolumns_ok size K A4 (by omega) (by omega) (by omega)) ?_
  rintro _ _ ⟨rfl, rfl⟩
  refine ⟨.inl (Ext.refl _), ?_⟩
  by_cases u3 : m.data.length = columns size K
  case neg =>
    have u3' : ¬ ((m.data.length : Nat) : Int) = ((columns size K : Nat) : Int) := by omega
    refine run ?_
    exact roundQ_n (i + 1, takeC N session (columns size K) c m, la', lb') subs ⟨by simp only; omega, xA4, bA4, kaA4, kbA4, fA4, gA4, caA4, cbA4, by simp only; omega, by omega⟩ (by simp only; omega)
  have u3' : ((m.data.length : Nat) : Int) = ((columns size K : Nat) : Int) := by omega
  by_cases u4 : other.length = m.data.length
  case neg =>
    have u4' : ¬ ((other.length : Nat) : Int) = ((m.data.length : Nat) : Int) := by omega
    refine run ?_
    exact roundQ_n (i + 1, takeC N session (columns size K) c m, la', lb') subs ⟨by simp only; omega, xA4, bA4, kaA4, kbA4, fA4, gA4, caA4, cbA4, by simp only; omega, by omega⟩ (by simp only; omega)
  refine run ?_
  refine RegS.store (v := so.val) (Blk.wr b6 (j := 15) (by simp [msgC])) ?_
  have b7 : Blk (hset A4 ⟨A2.size, 15, none⟩ so.val) A2.size 38 (msgC { m with data := other } { ms with da := so }) := Blk.set (j := 15) (v := so.val) b6
  have ch7 := hset_chg A4 ⟨A2.size, 15, none⟩ so.val
  generalize hset A4 ⟨A2.size, 15, none⟩ so.val = A5 at b7 ch7 ⊢
  have x45 : Ext A2 A5 := x56.then ch7 fun b hb => by simp only at hb; omega
  have hcl3 : (takeC N session (columns size K) c m).length ≤ 41 := by omega
  have hoA5 := hso.ext (xA2.trans x45)
  have zA5 := x45.size
  refine run ?_
  refine RegS.call (take3_ok N T K E R fb tb cb mb H5.size session Sl.nil size lb' (takeC N session (columns size K) c m) { m with data := other } { ms with da := so } A5 (kbA2.ext x45) (cbA2.ext x45) (by omega) (gA2.ext x45) hoA5 (by omega) (by omega) (by omega) (by omega) (by omega) (by omega) (by omega) (by omega) (by omega)) ?_
  rintro _ A6 ⟨xc, lc', rfl, hxc, hxcb, cbA6, c6'⟩
  obtain ⟨e1, e2⟩ := take_again (N := N) (T := T) (K := K) (E := E) (size := size) (ses := session) (c := c) (m := m) (other := other) u4
  rw [e1] at hxc ⊢
  rw [e2] at cbA6
  have hxb6 := RowF.chgN (hxb.ext x45) c6' fun hp b hb => ⟨RowF.lt (hxb.ext x45) hp b hb, fun e => by have := hxbb b hb; omega⟩
  have zA6 := c6'.size
  refine run ?_
  rw [dnb]
  refine run ?_
  rw [show dec ((takeV N T K E size session c m).getD [] ≠ (takeV N T K E size session c m).getD []) = false from dec_neg (by simp)]
  refine run ?_
  exact roundQ_n (i + 1, takeC N session (columns size K) c m, la', lc') subs ⟨by simp only; omega, (xA2.trans x45).then c6' fun b hb => by omega, (bA2.ext x45).chg c6' (by omega), (kaA2.ext x45).chg c6' (by omega), (kbA2.ext x45).chg c6' (by omega), isField_chg (fA2.ext x45) c6' (by omega), isField_chg (gA2.ext x45) c6' (by omega),
    (caA2.ext x45).low c6' (by omega) (fun b hb => by omega), cbA6, by simp only; omega, by omega⟩ (by simp only; omega)
end Go.Proofs.YtgmemfcfjlndoaaGreat
