/-
  The walks of package client, on: a share that comes.
-/
import Derived.Test.YtgmemfcfjlndoaaGreatVClient4
set_option linter.unusedVariables false
set_option linter.unusedSimpArgs false
namespace Go.Proofs.YtgmemfcfjlndoaaGreat
open Go Go.Vc Go.Gf

abbrev CV := List (Int × List UInt8)
def cget : CV → Int → Option (List UInt8)
  | [], _ => none
  | p :: r, k => if p.1 = k then some p.2 else cget r k
def cadd (c : CV) (k : Int) (d : List UInt8) : CV := if (cget c k).isSome then c else c ++ [(k, d)]
def keysC (c : CV) : List Int := sorted (c.map (·.1))
def rowsC (c : CV) : List (List UInt8) := (keysC c).map fun k => (cget c k).getD []
theorem RowF.notMap {β : Type} {f : β → Value} {d : β} {H : Heap} {s : Sl} {l : List β} {b : Nat} {m : KV} (h : RowF f d H s l) (hm : MapI H b m) : 0 < s.len → ∀ x, s.blk = some x → x < H.size ∧ ¬ x = b := fun hp x hx => by
  refine ⟨h.lt hp x hx, fun e => ?_⟩
  subst e
  obtain ⟨es, clock, h1, _⟩ := hm.at_
  have h0 := h.cell 0 (by have := h.len; omega)
  have hb := Sl.cell_blk (j := 0) hx
  unfold hcell at h0
  rw [hb, h1] at h0
  cases h0
/-- Rows that came, by number. -/
structure Came (H : Heap) (b base : Nat) (l : SV) (c : CV) : Prop where
  map : MapI H b (kvs l)
  keys : l.map (·.1) = c.map (·.1)
  rows : ∀ i, i < l.length → Bytes H (l.getD i (0, Sl.nil)).2 (c.getD i (0, [])).2
  ge : ∀ i, i < l.length → ∀ x, (l.getD i (0, Sl.nil)).2.blk = some x → base ≤ x
theorem Came.nil {H : Heap} {b base : Nat} (h : MapI H b []) : Came H b base [] [] := ⟨h, rfl, fun i hi => absurd hi (by simp), fun i hi => absurd hi (by simp)⟩
theorem Came.ext {H H' : Heap} {b base : Nat} {l : SV} {c : CV} (h : Came H b base l c) (x : Ext H H') : Came H' b base l c := ⟨h.map.ext x, h.keys, fun i hi => (h.rows i hi).ext x, h.ge⟩
/-- Blocks ahead of the rows, and not the map's, are written. -/
theorem Came.low {S : Nat → Prop} {H H' : Heap} {b base : Nat} {l : SV} {c : CV} (h : Came H b base l c) (k : Chg S H H') (hb : ¬ S b) (hs : ∀ x, S x → x < base) : Came H' b base l c :=
  ⟨h.map.chg k hb, h.keys, fun i hi => RowF.chgN (h.rows i hi) k fun hp x hx => ⟨RowF.lt (h.rows i hi) hp x hx, fun hS => by have := hs x hS; have := h.ge i hi x hx; omega⟩, h.ge⟩
theorem Came.chg {S : Nat → Prop} {H0 H H' : Heap} {b base : Nat} {l : SV} {c : CV} (h : Came H0 b base l c) (x : Ext H0 H) (k : Chg S H H') (hs : ∀ b, b < H0.size → ¬ S b) : Came H' b base l c :=
  ⟨(h.map.ext x).chg k (hs _ h.map.lt), h.keys, fun i hi => RowF.chgN (RowF.ext (h.rows i hi) x) k fun hp b hb => ⟨RowF.lt (RowF.ext (h.rows i hi) x) hp b hb, hs b (RowF.lt (h.rows i hi) hp b hb)⟩, h.ge⟩
theorem Came.length {H : Heap} {b base : Nat} {l : SV} {c : CV} (h : Came H b base l c) : l.length = c.length := by simpa using congrArg List.length h.keys
theorem pair_at {P : Sl → List UInt8 → Prop} : ∀ (l : SV) (c : CV), l.map (·.1) = c.map (·.1) → (∀ i, i < l.length → P (l.getD i (0, Sl.nil)).2 (c.getD i (0, [])).2) → ∀ q, (sget l q = none ∧ cget c q = none) ∨ ∃ s d, sget l q = some s ∧ cget c q = some d ∧ P s d
  | [], [], _, _, q => .inl ⟨rfl, rfl⟩
  | [], b :: c, h, _, _ => by simp at h
  | a :: l, [], h, _, _ => by simp at h
  | a :: l, b :: c, h, hP, q => by
    simp only [List.map_cons, List.cons.injEq] at h
    have ih := pair_at l c h.2 (fun i hi => by have := hP (i + 1) (by simpa using hi); simpa using this) q
    have h0 := hP 0 (by simp)
    simp only [List.getD_cons_zero] at h0
    simp only [sget, cget, ← h.1]
    by_cases e : a.1 = q
    · rw [if_pos e, if_pos e]; exact .inr ⟨_, _, rfl, rfl, h0⟩
    · rw [if_neg e, if_neg e]; exact ih
theorem Came.at {H : Heap} {b base : Nat} {l : SV} {c : CV} (h : Came H b base l c) (q : Int) : (sget l q = none ∧ cget c q = none) ∨ ∃ s d, sget l q = some s ∧ cget c q = some d ∧ Bytes H s d := pair_at l c h.keys h.rows q
theorem sget_none : ∀ {l : SV} {q : Int}, sget l q = none → ∀ p ∈ l, p.1 ≠ q
  | [], _, _, p, hp => by cases hp
  | a :: l, q, h, p, hp => by
    simp only [sget] at h
    split at h
    · cases h
    · rename_i hne
      rcases List.mem_cons.1 hp with rfl | hp
      · exact hne
      · exact sget_none h p hp
theorem sput_new : ∀ {l : SV} {q : Int} {s : Sl}, sget l q = none → sput l q s = l ++ [(q, s)]
  | [], _, _, _ => rfl
  | a :: l, q, s, h => by
    simp only [sget] at h
    split at h
    · cases h
    · rename_i hne
      simp only [sput, if_neg hne, List.cons_append]
      rw [sput_new h]
/-- A row more. -/
theorem Came.add {H H' : Heap} {b base : Nat} {l : SV} {c : CV} {k : Int} {s : Sl} {d : List UInt8} (h : Came H b base l c) (hk : sget l k = none) (hs : Bytes H s d) (hge : ∀ x, s.blk = some x → base ≤ x) (hm : MapI H' b (mput (kvs l) k s.val)) (hc : Chg (fun x => x = b) H H') : Came H' b base (sput l k s) (cadd c k d) := by
  have hck : cget c k = none := by
    rcases h.at k with ⟨_, e⟩ | ⟨s', d', e, _⟩
    · exact e
    · rw [hk] at e; cases e
  have hl := h.length
  rw [mput_kvs] at hm
  refine ⟨hm, ?_, fun i hi => ?_, fun i hi x hx => ?_⟩
  · rw [sput_new hk, cadd, hck]
    simp [h.keys]
  · rw [sput_new hk] at hi ⊢
    rw [cadd, hck]
    simp only [Option.isSome_none, Bool.false_eq_true, if_false]
    simp only [List.length_append, List.length_singleton] at hi
    by_cases e : i < l.length
    · have e1 : (l ++ [(k, s)]).getD i (0, Sl.nil) = l.getD i (0, Sl.nil) := by simp [List.getD_eq_getElem?_getD, List.getElem?_append_left e]
      have e2 : (c ++ [(k, d)]).getD i (0, []) = c.getD i (0, []) := by simp [List.getD_eq_getElem?_getD, List.getElem?_append_left (show i < c.length by omega)]
      rw [e1, e2]
      exact RowF.chgN (h.rows i e) hc (RowF.notMap (h.rows i e) h.map)
    · have e1 : (l ++ [(k, s)]).getD i (0, Sl.nil) = (k, s) := by
        have : i = l.length := by omega
        subst this; simp [List.getD_eq_getElem?_getD]
      have e2 : (c ++ [(k, d)]).getD i (0, []) = (k, d) := by
        have : i = c.length := by omega
        subst this; simp [List.getD_eq_getElem?_getD]
      rw [e1, e2]
      exact RowF.chgN hs hc (RowF.notMap hs h.map)
  · rw [sput_new hk] at hi hx
    simp only [List.length_append, List.length_singleton] at hi
    by_cases e : i < l.length
    · rw [show (l ++ [(k, s)]).getD i (0, Sl.nil) = l.getD i (0, Sl.nil) by simp [List.getD_eq_getElem?_getD, List.getElem?_append_left e]] at hx
      exact h.ge i e x hx
    · have : i = l.length := by omega
      subst this
      rw [show (l ++ [(k, s)]).getD l.length (0, Sl.nil) = (k, s) by simp [List.getD_eq_getElem?_getD]] at hx
      exact hge x hx
theorem Came.order {H : Heap} {b base : Nat} {l : SV} {c : CV} (h : Came H b base l c) : keysOf l = keysC c := by rw [keysOf, keysC, h.keys]
theorem Came.brows {H : Heap} {b base : Nat} {l : SV} {c : CV} {t : Sl} (h : Came H b base l c) (ht : RowF Sl.val Sl.nil H t (rowsOf l)) : BRows H t (rowsOf l) (rowsC c) := by
  have hkl : (keysC c).length = (keysOf l).length := by rw [h.order]
  refine ⟨ht, by simp [rowsOf, rowsC, hkl], fun k hk => ?_⟩
  have hk' : k < (keysC c).length := by simpa [rowsC] using hk
  have e1 : (rowsOf l).getD k Sl.nil = (sget l ((keysC c).getD k 0)).getD Sl.nil := by
    rw [← h.order]
    simp [rowsOf, List.getD_eq_getElem?_getD, List.getElem?_eq_getElem (show k < (keysOf l).length by omega)]
  have e2 : (rowsC c).getD k [] = (cget c ((keysC c).getD k 0)).getD [] := by
    simp [rowsC, List.getD_eq_getElem?_getD, List.getElem?_eq_getElem hk']
  rw [e1, e2]
  rcases h.at ((keysC c).getD k 0) with ⟨x1, x2⟩ | ⟨s, d, x1, x2, hb⟩
  · rw [x1, x2]; exact Bytes.nil _
  · rw [x1, x2]; exact hb
def takeP (N : Nat) (ses : Int) (cols : Nat) (m : MsgA) : Prop := m.kind = 4 ∧ m.session ≠ 0 ∧ m.session = ses ∧ 0 ≤ m.src ∧ m.src < N ∧ m.data.length = cols
def TakeR (H : Heap) (N T K E size : Nat) (ses : Int) (mb base : Nat) (l : SV) (c : CV) (m : MsgA) (v : Value) (H' : Heap) : Prop :=
  Chg (fun x => x = mb) H H' ∧ ((¬ takeP N ses (columns size K) m ∧ v = .tuple #[Sl.nil.val, .bool false] ∧ Came H' mb base l c) ∨
    (takeP N ses (columns size K) m ∧ ∃ l', Came H' mb base l' (cadd c m.src m.data) ∧
      ((∃ (hs : List Nat) (qs : List (List UInt8)) (a : Sl), isFound N T K E (columns size K : Nat) (keysC (cadd c m.src m.data)) (rowsC (cadd c m.src m.data)) hs qs ∧ v = .tuple #[a.val, .bool true] ∧ Bytes H' a (docL N K size qs) ∧ ∀ x, a.blk = some x → base ≤ x) ∨
        ((∀ hs qs, ¬ isFound N T K E (columns size K : Nat) (keysC (cadd c m.src m.data)) (rowsC (cadd c m.src m.data)) hs qs) ∧ v = .tuple #[Sl.nil.val, .bool false]))))
set_option maxHeartbeats 8000000 in
theorem take2_ok (N T K E R fb tb cb mb base : Nat) (ses : Int) (dealt : Sl) (size : Nat) (l : SV) (c : CV) (m : MsgA) (ms : MsgS) (H : Heap) (hc : Blk H cb 104 (clientC N T K E R fb tb ses dealt true size (.map (some mb)))) (hm : Came H mb base l c) (hbs : base ≤ H.size) (hF : IsField H fb) (hin : Bytes H ms.da m.data)
    (hl : c.length ≤ 1000) (hT0 : 1 ≤ T) (hT : T ≤ 255) (hK0 : 1 ≤ K) (hK : K ≤ 255) (hE : E ≤ 255) (hN : N ≤ 255) (hd : T + K ≤ 256) (hsz : size ≤ 256) :
    CallsH Tryz.prog 15 [ptrV cb, .agg (msgC m ms).toArray] H (TakeR H N T K E size ses mb base l c m) := by
  have hcb : cb ≠ mb := fun e => by
    obtain ⟨es, k, h1, _⟩ := hm.map.at_
    rw [← e, hc.at_] at h1
    cases h1
  have hfb : fb ≠ mb := fun e => by
    obtain ⟨es, k, h1, _⟩ := hm.map.at_
    have h2 := hF.exp 0 (by omega)
    unfold hcell at h2
    simp only [e, h1] at h2
    cases h2
  refine CallsH.enter h15 Tryz.func15 rfl rfl rfl (by decide) fun u => go ?_
  refine RegS.boxA fun H1 x1 z1 b1 => ?_
  have b1 : Blk H1 H.size 38 (msgC m ms) := b1
  have c1 := hc.ext x1
  refine go ?_
  refine RegP.call (own_ok N T K E R fb tb cb ses dealt true size (.map (some mb)) m ms 4 H1 c1) ?_
  rintro _ H2 ⟨rfl, x2⟩
  refine ⟨.inl x2, ?_⟩
  have b2 := b1.ext x2
  have c2 := c1.ext x2
  have x02 := x1.trans x2
  by_cases ho : m.kind = 4 ∧ m.session ≠ 0 ∧ m.session = ses
  case neg =>
    rw [dec_neg ho]
    refine go ?_
    refine RegP.skE ?_
    refine go ?_
    refine RegP.skE ?_
    refine go ?_
    exact ret2 ⟨x02.chg _, .inl ⟨fun h => ho ⟨h.1, h.2.1, h.2.2.1⟩, rfl, hm.ext x02⟩⟩
  rw [dec_pos ho]
  refine go ?_
  refine RegP.call (there_ok N T K E R fb tb cb ses dealt true size (.map (some mb)) m.src H2 c2) ?_
  rintro _ _ ⟨rfl, rfl⟩
  refine ⟨.inl (Ext.refl _), ?_⟩
  by_cases ht : 0 ≤ m.src ∧ m.src < N
  case neg =>
    rw [dec_neg ht]
    refine go ?_
    refine RegP.skE ?_
    refine go ?_
    exact ret2 ⟨x02.chg _, .inl ⟨fun h => ht ⟨h.2.2.2.1, h.2.2.2.2.1⟩, rfl, hm.ext x02⟩⟩
  rw [dec_pos ht]
  have hsl : ms.da.len = m.data.length := hin.len
  refine go ?_
  refine RegP.call (columns_ok size K H2 hK0 (by omega) (by omega)) ?_
  rintro _ _ ⟨rfl, rfl⟩
  refine ⟨.inl (Ext.refl _), ?_⟩
  refine go ?_
  refine Wp.br (fun h => ?_) (fun h => ?_) <;> refine go ?_
  · exact ret2 ⟨x02.chg _, .inl ⟨fun k => by have := k.2.2.2.2.2; omega, rfl, hm.ext x02⟩⟩
  have hlen : m.data.length = columns size K := by omega
  have htp : takeP N ses (columns size K) m := ⟨ho.1, ho.2.1, ho.2.2, ht.1, ht.2, hlen⟩
  have hcle := columns_le (size := size) hK0
  have hi : i64 m.src := ⟨by omega, by omega⟩
  have m2 := hm.ext x02
  refine RegP.lookup2 m2.map hi ?_
  have hsome : (mget (kvs l) m.src).isSome = (cget c m.src).isSome := by
    rw [mget_kvs]
    rcases hm.at m.src with ⟨e1, e2⟩ | ⟨s, d, e1, e2, _⟩ <;> rw [e1, e2] <;> rfl
  rw [hsome]
  cases hcg : cget c m.src with
  | some d0 =>
    obtain ⟨A, rfl⟩ : ∃ A, A = H2 := ⟨_, rfl⟩
    obtain ⟨l', rfl⟩ : ∃ l', l' = l := ⟨_, rfl⟩
    have mA : Came A mb base l' (cadd c m.src m.data) := by rw [cadd, hcg]; exact m2
    have cA := c2
    have fA : IsField A fb := hF.ext x02
    have kA : Chg (fun x => x = mb) H A := x02.chg _
    refine go ?_
    have hlA : l'.length ≤ 1001 := by rw [mA.length, cadd]; split <;> (try simp only [List.length_append, List.length_singleton]) <;> omega
    refine go ?_
    refine RegS.call (inOrder_ok mb l' A mA.map (by omega)) ?_
    rintro _ D ⟨s, t, rfl, rs, rt, xD⟩
    rw [mA.order] at rs
    have mD := mA.ext xD
    have hkl : (keysC (cadd c m.src m.data)).length ≤ 1001 := by rw [← mA.order]; simp [keysOf, sorted_length]; exact hlA
    have hrl : (rowsC (cadd c m.src m.data)).length ≤ 1001 := by simpa [rowsC] using hkl
    have cD := cA.ext xD
    have fD : IsField D fb := fA.ext xD
    refine go ?_
    refine RegP.call (open_ok fb N T K E R size s t (rowsOf l') (keysC (cadd c m.src m.data)) (rowsC (cadd c m.src m.data)) D fD rs (mD.brows rt) (by omega) (by omega) hT0 hT hK0 hK hE hN hd hsz) ?_
    rintro _ G ⟨xG, hres⟩
    refine ⟨.inl xG, ?_⟩
    have kG : Chg (fun x => x = mb) H G := kA.trans ((xD.trans xG).chg _)
    rcases hres with ⟨hs, qs, a, w, hf, rfl, ma, ow⟩ | ⟨hn, rfl⟩ <;> refine go ?_
    · exact ret2 ⟨kG, .inr ⟨htp, l', mD.ext xG, .inl ⟨hs, qs, a, hf, rfl, ma.bytes, fun x hx => by have := (ma.blk x hx).1; have := kA.size; have := xD.size; omega⟩⟩⟩
    · exact ret2 ⟨kG, .inr ⟨htp, l', mD.ext xG, .inr ⟨hn, rfl⟩⟩⟩
  | none =>
    have hsg : sget l m.src = none := by
      rcases hm.at m.src with ⟨e1, e2⟩ | ⟨s, d, e1, e2, _⟩
      · exact e1
      · rw [hcg] at e2; cases e2
    refine go ?_
    have hin2 := Bytes.ext hin x02
    refine RegP.call (clone_ok ms.da m.data H2 hin2 (by omega)) ?_
    rintro _ H3 ⟨cl, rfl, ocl, x3⟩
    refine ⟨.inl x3, ?_⟩
    have m3 := m2.ext x3
    have c3 := c2.ext x3
    have b3 := b2.ext x3
    have hcl3 : Bytes H3 cl m.data := OwnR.rowF ocl
    refine go ?_
    refine RegP.mapUpdate (u := cl.val) m3.map hi fun A m4 k4 => ?_
    have c4 := c3.chg k4 hcb
    have b4 := b3.chg k4 (by have := hm.map.lt; omega)
    refine ⟨by exact proms, ?_⟩
    obtain ⟨l', hl'⟩ : ∃ l', l' = sput l m.src cl := ⟨_, rfl⟩
    have mA : Came A mb base l' (cadd c m.src m.data) := by rw [hl']; exact m3.add hsg hcl3 (fun x hx => by have := (OwnR.blk_ge ocl hx).1; have := x02.size; omega) m4 k4
    have cA := c4
    have fA : IsField A fb := isField_chg ((hF.ext x02).ext x3) k4 hfb
    have kA : Chg (fun x => x = mb) H A := ((x02.trans x3).chg _).trans k4
    refine go ?_
    have hlA : l'.length ≤ 1001 := by rw [mA.length, cadd]; split <;> (try simp only [List.length_append, List.length_singleton]) <;> omega
    refine go ?_
    refine RegS.call (inOrder_ok mb l' A mA.map (by omega)) ?_
    rintro _ D ⟨s, t, rfl, rs, rt, xD⟩
    rw [mA.order] at rs
    have mD := mA.ext xD
    have hkl : (keysC (cadd c m.src m.data)).length ≤ 1001 := by rw [← mA.order]; simp [keysOf, sorted_length]; exact hlA
    have hrl : (rowsC (cadd c m.src m.data)).length ≤ 1001 := by simpa [rowsC] using hkl
    have cD := cA.ext xD
    have fD : IsField D fb := fA.ext xD
    refine go ?_
    refine RegP.call (open_ok fb N T K E R size s t (rowsOf l') (keysC (cadd c m.src m.data)) (rowsC (cadd c m.src m.data)) D fD rs (mD.brows rt) (by omega) (by omega) hT0 hT hK0 hK hE hN hd hsz) ?_
    rintro _ G ⟨xG, hres⟩
    refine ⟨.inl xG, ?_⟩
    have kG : Chg (fun x => x = mb) H G := kA.trans ((xD.trans xG).chg _)
    rcases hres with ⟨hs, qs, a, w, hf, rfl, ma, ow⟩ | ⟨hn, rfl⟩ <;> refine go ?_
    · exact ret2 ⟨kG, .inr ⟨htp, l', mD.ext xG, .inl ⟨hs, qs, a, hf, rfl, ma.bytes, fun x hx => by have := (ma.blk x hx).1; have := kA.size; have := xD.size; omega⟩⟩⟩
    · exact ret2 ⟨kG, .inr ⟨htp, l', mD.ext xG, .inr ⟨hn, rfl⟩⟩⟩
end Go.Proofs.YtgmemfcfjlndoaaGreat
