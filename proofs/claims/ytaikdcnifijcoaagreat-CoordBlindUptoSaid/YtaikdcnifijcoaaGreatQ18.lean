/-
  The walk of rec.DecodeBook, at a book's own bytes.
-/
import Derived.Test.YtaikdcnifijcoaaGreatQ17
set_option linter.unusedVariables false
set_option linter.unusedSimpArgs false
namespace Go.Proofs.YtaikdcnifijcoaaGreat
open Go Go.Vc Go.Gf
/-- The blocks of a book under way. -/
structure DecAt (A : Heap) (lo base qb rb eb kb : Nat) (cs : List Value) (n : Nat) (s : Sl) (l : List UInt8) : Prop where
  res : Blk A qb 55 [IV 0, IV 0, IV 0, Sl.nil.val, Sl.nil.val, Sl.nil.val]
  rd : ReadAt A lo rb s l false
  eye : Blk A eb 201 [ptrD rb, I64 n]
  book : Blk A kb 55 cs
  lt : qb < base ∧ rb < base ∧ eb < base ∧ kb < base
  ne : qb ≠ rb ∧ qb ≠ eb ∧ qb ≠ kb ∧ rb ≠ eb ∧ rb ≠ kb ∧ eb ≠ kb
  size : base ≤ A.size
  lo : lo ≤ base ∧ lo ≤ kb
theorem DecAt.ext {A B : Heap} {lo base qb rb eb kb n : Nat} {cs : List Value} {s : Sl} {l : List UInt8} (h : DecAt A lo base qb rb eb kb cs n s l) (e : Ext A B) : DecAt B lo base qb rb eb kb cs n s l :=
  ⟨h.res.ext e, h.rd.ext e, h.eye.ext e, h.book.ext e, h.lt, h.ne, by have := h.size; have := e.size; omega, h.lo⟩
theorem DecAt.chg {A B : Heap} {lo base qb rb eb kb n : Nat} {cs : List Value} {s : Sl} {l : List UInt8} (h : DecAt A lo base qb rb eb kb cs n s l) (c : Chg (fun b => base ≤ b) A B) : DecAt B lo base qb rb eb kb cs n s l :=
  have lt := h.lt
  ⟨h.res.chg c (by omega), h.rd.chg c (by omega) (by have := h.lo; intro b hb; omega), h.eye.chg c (by omega), h.book.chg c (by omega), h.lt, h.ne, by have := h.size; have := c.size; omega, h.lo⟩
theorem DecAt.read {A B : Heap} {lo base qb rb eb kb n : Nat} {cs : List Value} {s t : Sl} {l m : List UInt8} (h : DecAt A lo base qb rb eb kb cs n s l) (c : Chg (· = rb) A B) (r : ReadAt B lo rb t m false) : DecAt B lo base qb rb eb kb cs n t m :=
  have ne := h.ne
  ⟨h.res.chg c (by omega), r, h.eye.chg c (by omega), h.book.chg c (by omega), h.lt, h.ne, by have := h.size; have := c.size; omega, h.lo⟩
theorem DecAt.set {A : Heap} {lo base qb rb eb kb n : Nat} {cs : List Value} {s : Sl} {l : List UInt8} (h : DecAt A lo base qb rb eb kb cs n s l) (j : Nat) (v : Value) : DecAt (hset A ⟨kb, j, none⟩ v) lo base qb rb eb kb (cs.set j v) n s l :=
  have ne := h.ne
  have c : Chg (fun b => b = kb) A (hset A ⟨kb, j, none⟩ v) := hset_chg A ⟨kb, j, none⟩ v
  ⟨h.res.chg c (by omega), ⟨h.rd.blk.chg c (by omega), h.rd.row.chgN c (fun hp b hb => ⟨h.rd.row.lt hp b hb, by have := h.rd.low b hb; have := h.lo; omega⟩), h.rd.low⟩, h.eye.chg c (by omega), Blk.set h.book, h.lt, ne, by have := h.size; have := c.size; omega, h.lo⟩
theorem putB_ge {l : List Int} (h : ∀ x ∈ l, 0 ≤ x ∧ x ≤ 1073741824) : l.length ≤ (putB l).length := by
  induction l with
  | nil => simp
  | cons a l ih =>
    have h1 := ih fun x hx => h x (List.mem_cons_of_mem _ hx)
    have h2 := h a (by simp)
    have h3 : (intB a).length = 4 := by unfold intB; rw [if_neg (by omega)]; rfl
    simp only [putB, List.flatMap_cons, List.length_append, List.length_cons] at h1 ⊢
    omega
theorem headsB_ge {l : List HdT} (h : ∀ x ∈ l, 0 ≤ x.2 ∧ x.2 ≤ 256) : l.length ≤ (headsB l).length := by
  induction l with
  | nil => simp
  | cons a l ih =>
    have h1 := ih fun x hx => h x (List.mem_cons_of_mem _ hx)
    have h2 := h a (by simp)
    have h3 := putB_ge (l := [a.2]) (by intro x hx; simp only [List.mem_cons, List.not_mem_nil, or_false] at hx; subst hx; omega)
    simp only [List.length_cons, List.length_nil] at h3
    simp only [headsB, List.flatMap_cons, List.length_append, List.length_cons] at h1 ⊢
    omega
set_option maxHeartbeats 8000000 in
theorem decodeBook_ok (n : Nat) (k : BookA) (s : Sl) (H : Heap) (hs : Bytes H s (bookB k)) (hk : BookFit n k) (hn : n ≤ 255) : CallsH Tryz.prog 72 [s.val] H fun v H' => ∃ c : BookS, v = .tuple #[.agg (bookC k c).toArray, .bool true] ∧ BookIn H' k c ∧ Ext H H' ∧ (∀ b, c.dir.blk = some b → H.size ≤ b) ∧ (∀ b, c.up.blk = some b → H.size ≤ b) ∧ (∀ b, c.com.blk = some b → H.size ≤ b) ∧ BookNew H H' k c := by
  have hlen := bookB_len hk hn
  obtain ⟨hgood, hsm⟩ := bookFit_good hk hn
  have hsl := hs.len
  refine CallsH.enter h72 Tryz.func72 rfl rfl rfl (by decide) fun u => go ?_
  refine RegS.allocA fun H1 x1 z1 b1 => ?_
  have b1 : Blk H1 H.size 55 [IV 0, IV 0, IV 0, Sl.nil.val, Sl.nil.val, Sl.nil.val] := b1
  refine run ?_
  refine RegS.call (rnew_ok s _ H1 (hs.ext x1) (by omega)) ?_
  rintro _ H2 ⟨rb, t2, rfl, r2, x2, hrb⟩
  have hs2 := hs.ext (x1.trans x2)
  refine run ?_
  refine RegS.allocA fun H3 x3 z3 b3 => ?_
  have b3 : Blk H3 H2.size 201 [.pointer none, IV 0] := b3
  refine run ?_
  refine RegS.storeA b3 ?_
  have b4 : Blk (hsets H3 H2.size 0 [ptrD rb, I64 (bookB k).length]) H2.size 201 [ptrD rb, I64 (bookB k).length] := Blk.sets [ptrD rb, I64 (bookB k).length] 0 b3
  have x4 : Ext H2 (hsets H3 H2.size 0 [ptrD rb, I64 (bookB k).length]) := x3.then (hsets_chg H2.size [ptrD rb, I64 (bookB k).length] 0 H3) fun b hb => by omega
  generalize hsets H3 H2.size 0 [ptrD rb, I64 (bookB k).length] = H4 at b4 x4 ⊢
  have r4 := r2.ext x4
  rw [bookB_seq] at r4
  have f1 := hk.session
  have f2 := hk.decided
  have f3 := hk.epoch
  have f4 := hk.dir
  have f5 := hk.up
  have f6 := hk.commit
  have ltr := r2.blk.lt
  have lt4 := b4.lt
  have zx2 := x2.size
  refine run ?_
  refine RegS.call (rint_ok k.session _ r4 (by omega)) ?_
  rintro _ H5 ⟨t5, rfl, r5, c5⟩
  have b15 := (b1.ext (x2.trans x4)).chg c5 (by have := b1.lt; omega)
  have b25 := b4.chg c5 (by omega)
  refine run ?_
  refine RegS.allocA fun H6 x6 z6 b6 => ?_
  have b6 : Blk H6 H5.size 55 [IV 0, IV 0, IV 0, Sl.nil.val, Sl.nil.val, Sl.nil.val] := b6
  refine run ?_
  refine RegS.storeA (us := [IV k.session, IV 0, IV 0, Sl.nil.val, Sl.nil.val, Sl.nil.val]) b6 ?_
  have b7 : Blk (hsets H6 H5.size 0 [IV k.session, IV 0, IV 0, Sl.nil.val, Sl.nil.val, Sl.nil.val]) H5.size 55 [IV k.session, IV 0, IV 0, Sl.nil.val, Sl.nil.val, Sl.nil.val] := Blk.sets [IV k.session, IV 0, IV 0, Sl.nil.val, Sl.nil.val, Sl.nil.val] 0 b6
  have x7 : Ext H5 (hsets H6 H5.size 0 [IV k.session, IV 0, IV 0, Sl.nil.val, Sl.nil.val, Sl.nil.val]) := x6.then (hsets_chg H5.size [IV k.session, IV 0, IV 0, Sl.nil.val, Sl.nil.val, Sl.nil.val] 0 H6) fun b hb => by omega
  generalize hsets H6 H5.size 0 [IV k.session, IV 0, IV 0, Sl.nil.val, Sl.nil.val, Sl.nil.val] = H7 at b7 x7 ⊢
  have zx4 := x4.size
  have zx5 := c5.size
  have zx7 := x7.size
  have lt7 := b7.lt
  have d7 : DecAt H7 H2.size H7.size H.size rb H2.size H5.size [IV k.session, IV 0, IV 0, Sl.nil.val, Sl.nil.val, Sl.nil.val] (bookB k).length t5 _ := ⟨b15.ext x7, r5.ext x7, b25.ext x7, b7, by omega, by omega, Nat.le_refl _, by omega⟩
  have x07 : Ext H H7 := (((x1.trans x2).trans x4).then c5 fun b hb => by omega).trans x7
  have hs7 := hs.ext x07
  clear b15 b25 b7 b6 b4 r5 r4 b3 b1 r2
  have gr : ∀ {A B : Heap}, Ext H A → Chg (· = rb) A B → Ext H B := fun x c => x.then c fun b hb => by omega
  have gk : ∀ {A : Heap} (j : Nat) (v : Value), Ext H A → Ext H (hset A ⟨H5.size, j, none⟩ v) := fun j v x => x.then (hset_chg _ ⟨H5.size, j, none⟩ v) fun b hb => by simp only at hb; omega
  generalize hG : H7.size = G at d7
  have hb7 := d7.book
  have he7 := d7.eye
  refine run ?_
  refine RegS.call (rint_ok k.decided _ d7.rd (by omega)) ?_
  rintro _ H8 ⟨t8, rfl, r8, c8⟩
  have d8 := d7.read c8 r8
  have x8 := gr x07 c8
  have hb8 := d8.book
  refine run ?_
  refine RegS.store (v := IV k.decided) (Blk.wr hb8 (j := 1) (by simp)) ?_
  have d9 : DecAt _ H2.size G H.size rb H2.size H5.size [IV k.session, IV k.decided, IV 0, Sl.nil.val, Sl.nil.val, Sl.nil.val] _ _ _ := d8.set 1 (IV k.decided)
  have x9 := gk 1 (IV k.decided) x8
  generalize hset H8 ⟨H5.size, 1, none⟩ (IV k.decided) = H9 at d9 x9 ⊢
  have he9 := d9.eye
  refine run ?_
  refine RegS.call (rint_ok k.epoch _ d9.rd (by omega)) ?_
  rintro _ H10 ⟨t10, rfl, r10, c10⟩
  have d10 := d9.read c10 r10
  have x10 := gr x9 c10
  have hb10 := d10.book
  refine run ?_
  refine RegS.store (v := IV k.epoch) (Blk.wr hb10 (j := 2) (by simp)) ?_
  have d11 : DecAt _ H2.size G H.size rb H2.size H5.size [IV k.session, IV k.decided, IV k.epoch, Sl.nil.val, Sl.nil.val, Sl.nil.val] _ _ _ := d10.set 2 (IV k.epoch)
  have x11 := gk 2 (IV k.epoch) x10
  generalize hset H10 ⟨H5.size, 2, none⟩ (IV k.epoch) = H11 at d11 x11 ⊢
  have he11 := d11.eye
  have ge1 := headsB_ge (l := k.dir) fun x hx => (hk.each x hx).2.2
  have ge2 := putB_ge hk.com
  have hbl : (bookB k).length = (bookB k).length := rfl
  rw (occs := .pos [2]) [bookB_seq] at hbl
  have uplen : k.up.length ≤ (putB (k.up.map flagI)).length := by
    have := putB_ge (l := k.up.map flagI) (by intro x hx; obtain ⟨b, _, rfl⟩ := List.mem_map.1 hx; unfold flagI; split <;> omega)
    rwa [List.length_map] at this
  simp only [List.length_append] at hbl
  refine run ?_
  refine RegS.call (count_ok k.dir.length (bookB k).length _ d11.rd (by omega) (by omega)) ?_
  rintro _ H12 ⟨t12, rfl, r12, c12⟩
  have d12 := d11.read c12 r12
  have x12 := gr x11 c12
  refine run ?_
  have D12 : DecAt H12 H2.size G H.size rb H2.size H5.size [IV k.session, IV k.decided, IV k.epoch, Sl.nil.val, Sl.nil.val, Sl.nil.val] (bookB k).length t12 (headsB (k.dir.drop 0) ++ (intB (k.up.length : Int) ++ (putB (k.up.map flagI) ++ (intB (k.commit.length : Int) ++ putB k.commit)))) := d12
  refine Wp.loop (ι := Nat × Sl × Sl) (fun i => [(0, s.val), (2, ptrD H.size), (4, ptrD H2.size), (5, ptrD H5.size), (27, I64 k.dir.length), (28, I64 i.1)])
    (fun i A => i.1 ≤ k.dir.length ∧ DecAt A H2.size G H.size rb H2.size H5.size [IV k.session, IV k.decided, IV k.epoch, i.2.1.val, Sl.nil.val, Sl.nil.val] (bookB k).length i.2.2 (headsB (k.dir.drop i.1) ++ (intB (k.up.length : Int) ++ (putB (k.up.map flagI) ++ (intB (k.commit.length : Int) ++ putB k.commit)))) ∧ OwnR A G 79 2 i.2.1 ((k.dir.take i.1).flatMap hdV) ∧ Ext H A) (fun i => k.dir.length - i.1) (0, Sl.nil, t12) subs ⟨Nat.zero_le _, D12, OwnR.nil _ _ _ _, x12⟩ ?_
  rintro ⟨i, D, t⟩ A ⟨hi, dA, oA, xA⟩
  have hi : i ≤ k.dir.length := hi
  have dA : DecAt A H2.size G H.size rb H2.size H5.size [IV k.session, IV k.decided, IV k.epoch, D.val, Sl.nil.val, Sl.nil.val] (bookB k).length t (headsB (k.dir.drop i) ++ (intB (k.up.length : Int) ++ (putB (k.up.map flagI) ++ (intB (k.commit.length : Int) ++ putB k.commit)))) := dA
  have oA : OwnR A G 79 2 D ((k.dir.take i).flatMap hdV) := oA
  have xA : Ext H A := xA
  show Wp _ _ _ [(0, s.val), (2, ptrD H.size), (4, ptrD H2.size), (5, ptrD H5.size), (27, I64 k.dir.length), (28, I64 i)] _ _
  have heA := dA.eye
  have gsz := dA.size
  have glt := dA.lt
  refine run ?_
  refine Wp.br (fun hlt => ?_) (fun hlt => ?_)
  · have hlt : (i : Int) < (k.dir.length : Int) := hlt
    have hit : i < k.dir.length := by omega
    have hx := hk.each (k.dir.getD i ([], 0)) (by rw [getD_get _ hit]; exact List.getElem_mem _)
    have rA := dA.rd
    rw [headsB_drop hit, List.append_assoc, List.append_assoc] at rA
    have hA : List.take (i + 1) k.dir = List.take i k.dir ++ [k.dir.getD i ([], 0)] := take_snoc' _ hit
    generalize k.dir.getD i ([], 0) = x at hx rA hA
    obtain ⟨xn, xv⟩ := x
    have hx : 1 ≤ xn.length ∧ xn.length ≤ 16 ∧ 0 ≤ xv ∧ xv ≤ 256 := hx
    have rA : ReadAt A H2.size rb t (layB xn ++ (intB xv ++ _)) false := rA
    refine run ?_
    refine RegS.call (rbytes_ok _ _ rA (by omega)) ?_
    rintro _ A1 ⟨c, t1, rfl, hc, r1, c1, g1⟩
    have d1 := dA.read c1 r1
    have o1 := oA.chg c1 fun b hb e => by have := (oA.blk_ge hb).1; omega
    have xx1 := gr xA c1
    refine run ?_
    refine RegS.allocA fun A2 y2 z2 e2 => ?_
    have e2 : Blk A2 A1.size 79 [S [], IV 0] := e2
    refine run ?_
    refine RegS.storeA (us := [S xn, IV 0]) e2 ?_
    have e3 : Blk (hsets A2 A1.size 0 [S xn, IV 0]) A1.size 79 [S xn, IV 0] := Blk.sets [S xn, IV 0] 0 e2
    have y3 : Ext A1 (hsets A2 A1.size 0 [S xn, IV 0]) := y2.then (hsets_chg A1.size [S xn, IV 0] 0 A2) fun b hb => by omega
    generalize hsets A2 A1.size 0 [S xn, IV 0] = A3 at e3 y3 ⊢
    have d3 := d1.ext y3
    have o3 := o1.ext y3
    have xx3 := xx1.trans y3
    have he3 := d3.eye
    have gs1 := d1.size
    refine run ?_
    refine RegS.call (rint_ok xv _ d3.rd (by omega)) ?_
    rintro _ A4 ⟨t4, rfl, r4, c4⟩
    have d4 := d3.read c4 r4
    have o4 := o3.chg c4 fun b hb e => by have := (o3.blk_ge hb).1; omega
    have xx4 := gr xx3 c4
    have e4 := e3.chg c4 (by omega)
    refine run ?_
    refine RegS.store (v := IV xv) (Blk.wr e4 (j := 1) (by simp)) ?_
    have c5 := hset_chg A4 ⟨A1.size, 1, none⟩ (IV xv)
    have e5 : Blk (hset A4 ⟨A1.size, 1, none⟩ (IV xv)) A1.size 79 [S xn, IV xv] := Blk.set (j := 1) (v := IV xv) e4
    have d5 := d4.chg (c5.mono fun b hb e => by have e : b = A1.size := e; omega)
    have o5 := o4.chg c5 fun b hb e => by have := (o1.blk_ge hb).2; simp only at e; omega
    have xx5 := xx4.then c5 fun b hb => by have := xx1.size; simp only at hb; omega
    generalize hset A4 ⟨A1.size, 1, none⟩ (IV xv) = A5 at e5 d5 o5 xx5 c5 ⊢
    have hb5 := d5.book
    refine run ?_
    refine RegS.buildOne (e := 0) (cs := [S xn, IV xv]) 79 fun A6 b6 y6 z6 => ?_
    have d6 := d5.ext y6
    have o6 := o5.ext y6
    have hb6 := d6.book
    have gs5 := d5.size
    refine run ?_
    have hl6 := o6.1
    rw [hdV_flat, List.length_take] at hl6
    refine RegS.appendN o6 (r := Sl.fresh A5.size 1) (ys := [S xn, IV xv]) rfl (Blk.one b6) ?_ (by omega) ?_ ?_ ?_
    · intro v hv
      simp only [List.mem_cons, List.not_mem_nil, or_false] at hv
      rcases hv with rfl | rfl <;> rfl
    · show (D.len + 1) * _ ≤ _; omega
    · show D.len + 1 ≤ _; omega
    intro D' A7 o7 c7 g7
    have hD : ∀ b, D.blk = some b → G ≤ b := fun b hb => (o6.blk_ge hb).1
    have d7 := d6.chg (c7.mono fun b hb e => hD b e)
    have xx7 := (xx5.trans y6).then c7 fun b hb => by have := hD b hb; have := x12.size; have := c12.size; omega
    have hb7 := d7.book
    refine run ?_
    refine RegS.store (v := D'.val) (Blk.wr hb7 (j := 3) (by simp)) ?_
    have d8 : DecAt _ H2.size G H.size rb H2.size H5.size [IV k.session, IV k.decided, IV k.epoch, D'.val, Sl.nil.val, Sl.nil.val] _ _ _ := d7.set 3 D'.val
    have xx8 := gk 3 D'.val xx7
    have o8 := o7.chg (hset_chg A7 ⟨H5.size, 3, none⟩ D'.val) fun b hb e => by have := (o7.blk_ge hb).1; simp only at e; omega
    generalize hset A7 ⟨H5.size, 3, none⟩ D'.val = A8 at d8 xx8 o8 ⊢
    refine run ?_
    refine roundQ_n (i + 1, D', t4) subs ⟨hit, d8, ?_, xx8⟩ (by show k.dir.length - (i + 1) < k.dir.length - i; omega)
    show OwnR A8 G 79 2 D' ((List.take (i + 1) k.dir).flatMap hdV)
    rw [hA, List.flatMap_append]
    simpa [hdV] using o8
  · have hlt : ¬ (i : Int) < (k.dir.length : Int) := hlt
    have hie : i = k.dir.length := by omega
    subst hie
    rw [List.drop_length] at dA
    have dA : DecAt A H2.size G H.size rb H2.size H5.size [IV k.session, IV k.decided, IV k.epoch, D.val, Sl.nil.val, Sl.nil.val] (bookB k).length t (intB (k.up.length : Int) ++ (putB (k.up.map flagI) ++ (intB (k.commit.length : Int) ++ putB k.commit))) := dA
    rw [List.take_length] at oA
    refine run ?_
    refine RegS.call (count_ok k.up.length (bookB k).length _ dA.rd (by omega) (by omega)) ?_
    rintro _ A1 ⟨t1, rfl, r1, c1⟩
    have d1 := dA.read c1 r1
    have o1 := oA.chg c1 fun b hb e => by have := (oA.blk_ge hb).1; omega
    have xx1 := gr xA c1
    refine run ?_
    have gA := dA.size
    obtain ⟨G2, hG2⟩ : ∃ G2, G2 = A1.size := ⟨_, rfl⟩
    have gc1 := c1.size
    have hDb : ∀ b, D.blk = some b → G ≤ b ∧ b < G2 := fun b hb => by have := o1.blk_ge hb; omega
    have hD1 := o1
    have hfb : ∀ b : Bool, dec (flagI b = ((1 : Nat) : Int)) = b := fun b => by cases b <;> simp [flagI, dec]
    have D1 : DecAt A1 H2.size G H.size rb H2.size H5.size [IV k.session, IV k.decided, IV k.epoch, D.val, Sl.nil.val, Sl.nil.val] (bookB k).length t1 (putB ((k.up.map flagI).drop 0) ++ (intB (k.commit.length : Int) ++ putB k.commit)) := d1
    refine Wp.loop (ι := Nat × Sl × Sl) (fun i => [(0, s.val), (2, ptrD H.size), (4, ptrD H2.size), (5, ptrD H5.size), (47, I64 k.up.length), (48, I64 i.1)])
      (fun i A => i.1 ≤ k.up.length ∧ DecAt A H2.size G H.size rb H2.size H5.size [IV k.session, IV k.decided, IV k.epoch, D.val, i.2.1.val, Sl.nil.val] (bookB k).length i.2.2 (putB ((k.up.map flagI).drop i.1) ++ (intB (k.commit.length : Int) ++ putB k.commit)) ∧ OwnF Value.bool A G2 4 i.2.1 (k.up.take i.1) ∧ OwnR A G 79 2 D (k.dir.flatMap hdV) ∧ G2 ≤ A.size ∧ Ext H A) (fun i => k.up.length - i.1) (0, Sl.nil, t1) subs ⟨Nat.zero_le _, D1, OwnR.nil _ _ _ _, hD1, by omega, xx1⟩ ?_
    clear D1 d1 o1 hD1
    rintro ⟨i, U, t⟩ B ⟨hi, dB, oB, hB, gB, xB⟩
    have hi : i ≤ k.up.length := hi
    have dB : DecAt B H2.size G H.size rb H2.size H5.size [IV k.session, IV k.decided, IV k.epoch, D.val, U.val, Sl.nil.val] (bookB k).length t (putB ((k.up.map flagI).drop i) ++ (intB (k.commit.length : Int) ++ putB k.commit)) := dB
    have oB : OwnF Value.bool B G2 4 U (k.up.take i) := oB
    have xB : Ext H B := xB
    have gB : G2 ≤ B.size := gB
    have hB : OwnR B G 79 2 D (k.dir.flatMap hdV) := hB
    show Wp _ _ _ [(0, s.val), (2, ptrD H.size), (4, ptrD H2.size), (5, ptrD H5.size), (47, I64 k.up.length), (48, I64 i)] _ _
    have hbB := dB.book
    have heB := dB.eye
    refine run ?_
    refine Wp.br (fun hlt => ?_) (fun hlt => ?_)
    · have hlt : (i : Int) < (k.up.length : Int) := hlt
      have hit : i < k.up.length := by omega
      have rB := dB.rd
      rw [putB_drop (by rw [List.length_map]; exact hit), List.append_assoc] at rB
      have hx : (k.up.map flagI).getD i 0 = flagI (k.up.getD i false) := by simp [List.getD_eq_getElem?_getD, hit]
      rw [hx] at rB
      have hA : List.take (i + 1) k.up = List.take i k.up ++ [k.up.getD i false] := take_snoc' _ hit
      generalize k.up.getD i false = x at rB hA
      have hfx : -2 ≤ flagI x ∧ flagI x ≤ 2147483645 := by unfold flagI; split <;> omega
      refine run ?_
      refine RegP.call (rint_ok (flagI x) _ rB hfx) ?_
      rintro _ B1 ⟨t1, rfl, r1, c1⟩
      have d1 := dB.read c1 r1
      have o1 := oB.chg c1 fun b hb e => by have := (oB.blk_ge hb).1; omega
      have h1 := hB.chg c1 fun b hb e => by have := hDb b hb; omega
      have xx1 := gr xB c1
      have hb1 := d1.book
      refine ⟨.inr proms2, ?_⟩
      refine run ?_
      rw [hfb]
      refine RegP.buildSlice fun B2 o2 y2 w2 => ?_
      have o2' : RowF Value.bool false B2 (Sl.fresh B1.size 1) [x] := OwnR.rowF (f := Value.bool) (l := [x]) o2
      have d2 := d1.ext y2
      have o12 := o1.ext y2
      have hb2 := d2.book
      have gs1 := d1.size
      refine run ?_
      refine RegP.append (f := Value.bool) o12 o2' (fun _ => rfl) (by have := c1.size; have := y2.size; omega) ?_ ?_ ?_
      · simp only [List.length_take, List.length_singleton]; omega
      · simp only [List.length_take, List.length_singleton]; omega
      intro U' B3 o3 c3 b3
      have hU : ∀ b, U.blk = some b → G2 ≤ b := fun b hb => (o12.blk_ge hb).1
      have d3 := d2.chg (c3.mono fun b hb e => by have := hU b e; have := xA.size; omega)
      have xx3 := (xx1.trans y2).then c3 fun b hb => by have := hU b hb; have := xA.size; omega
      have h3 := (h1.ext y2).chg c3 fun b hb e => by have := hDb b hb; have := hU b e; omega
      have hb3 := d3.book
      refine ⟨.inr proms2, ?_⟩
      refine run ?_
      refine RegP.store (v := U'.val) (Blk.wr hb3 (j := 4) (by simp)) ?_ ?_
      · exact proms2
      have d4 : DecAt _ H2.size G H.size rb H2.size H5.size [IV k.session, IV k.decided, IV k.epoch, D.val, U'.val, Sl.nil.val] _ _ _ := d3.set 4 U'.val
      have xx4 := gk 4 U'.val xx3
      have c4 := hset_chg B3 ⟨H5.size, 4, none⟩ U'.val
      have o4 := o3.chg c4 fun b hb e => by have := (o3.blk_ge hb).1; simp only at e; omega
      have h4 := h3.chg c4 fun b hb e => by have := hDb b hb; simp only at e; omega
      have gs4 : G2 ≤ (hset B3 ⟨H5.size, 4, none⟩ U'.val).size := by have := c1.size; have := y2.size; have := c3.size; have := c4.size; omega
      generalize hset B3 ⟨H5.size, 4, none⟩ U'.val = B4 at d4 xx4 o4 h4 gs4 ⊢
      refine run ?_
      refine roundQ_n (i + 1, U', t1) subs ⟨hit, d4, ?_, h4, gs4, xx4⟩ (by show k.up.length - (i + 1) < k.up.length - i; omega)
      show OwnF Value.bool B4 G2 4 U' (List.take (i + 1) k.up)
      rw [hA]
      exact o4
    · have hlt : ¬ (i : Int) < (k.up.length : Int) := hlt
      have hie : i = k.up.length := by omega
      subst hie
      rw [show (k.up.map flagI).drop k.up.length = [] from List.drop_eq_nil_of_le (by simp)] at dB
      have dB : DecAt B H2.size G H.size rb H2.size H5.size [IV k.session, IV k.decided, IV k.epoch, D.val, U.val, Sl.nil.val] (bookB k).length t (intB (k.commit.length : Int) ++ putB k.commit) := dB
      rw [List.take_length] at oB
      refine run ?_
      refine RegS.call (count_ok k.commit.length (bookB k).length _ dB.rd (by omega) (by omega)) ?_
      rintro _ B1 ⟨t1, rfl, r1, c1⟩
      have d1 := dB.read c1 r1
      have o1 := oB.chg c1 fun b hb e => by have := (oB.blk_ge hb).1; have := xA.size; omega
      have h1 := hB.chg c1 fun b hb e => by have := hDb b hb; omega
      have xx1 := gr xB c1
      have zc1 := c1.size
      refine run ?_
      obtain ⟨G3, hG3⟩ : ∃ G3, G3 = B1.size := ⟨_, rfl⟩
      have hUb : ∀ b, U.blk = some b → G2 ≤ b ∧ b < G3 := fun b hb => by have := o1.blk_ge hb; omega
      have u1 : OwnF Value.bool B1 G2 4 U k.up := o1
      have D1 : DecAt B1 H2.size G H.size rb H2.size H5.size [IV k.session, IV k.decided, IV k.epoch, D.val, U.val, Sl.nil.val] (bookB k).length t1 (putB (k.commit.drop 0)) := d1
      refine Wp.loop (ι := Nat × Sl × Sl) (fun i => [(0, s.val), (2, ptrD H.size), (4, ptrD H2.size), (5, ptrD H5.size), (61, I64 k.commit.length), (62, I64 i.1)])
        (fun i A => i.1 ≤ k.commit.length ∧ DecAt A H2.size G H.size rb H2.size H5.size [IV k.session, IV k.decided, IV k.epoch, D.val, U.val, i.2.1.val] (bookB k).length i.2.2 (putB (k.commit.drop i.1)) ∧ OwnF IV A G3 3 i.2.1 (k.commit.take i.1) ∧ OwnR A G 79 2 D (k.dir.flatMap hdV) ∧ OwnF Value.bool A G2 4 U k.up ∧ G3 ≤ A.size ∧ Ext H A) (fun i => k.commit.length - i.1) (0, Sl.nil, t1) subs ⟨Nat.zero_le _, D1, OwnR.nil _ _ _ _, h1, u1, by omega, xx1⟩ ?_
      clear D1 d1 o1 h1 u1
      rintro ⟨i, W, t⟩ E ⟨hi, dE, oE, hE, uE, gE, xE⟩
      have hi : i ≤ k.commit.length := hi
      have dE : DecAt E H2.size G H.size rb H2.size H5.size [IV k.session, IV k.decided, IV k.epoch, D.val, U.val, W.val] (bookB k).length t (putB (k.commit.drop i)) := dE
      have oE : OwnF IV E G3 3 W (k.commit.take i) := oE
      have xE : Ext H E := xE
      have gE : G3 ≤ E.size := gE
      have hE : OwnR E G 79 2 D (k.dir.flatMap hdV) := hE
      have uE : OwnF Value.bool E G2 4 U k.up := uE
      show Wp _ _ _ [(0, s.val), (2, ptrD H.size), (4, ptrD H2.size), (5, ptrD H5.size), (61, I64 k.commit.length), (62, I64 i)] _ _
      have hbE := dE.book
      have heE := dE.eye
      refine run ?_
      refine Wp.br (fun hlt => ?_) (fun hlt => ?_)
      · have hlt : (i : Int) < (k.commit.length : Int) := hlt
        have hit : i < k.commit.length := by omega
        have rE := dE.rd
        rw [putB_drop hit] at rE
        have hx := hk.com (k.commit.getD i 0) (by rw [getD_get _ hit]; exact List.getElem_mem _)
        have hA : List.take (i + 1) k.commit = List.take i k.commit ++ [k.commit.getD i 0] := take_snoc' _ hit
        generalize k.commit.getD i 0 = x at rE hA hx
        refine run ?_
        refine RegP.call (rint_ok x _ rE (by omega)) ?_
        rintro _ E1 ⟨t1, rfl, r1, c1⟩
        have d1 := dE.read c1 r1
        have o1 := oE.chg c1 fun b hb e => by have := (oE.blk_ge hb).1; have := xA.size; omega
        have h1 := hE.chg c1 fun b hb e => by have := hDb b hb; omega
        have u1 := uE.chg c1 fun b hb e => by have := hUb b hb; have := xA.size; omega
        have xx1 := gr xE c1
        have hb1 := d1.book
        refine ⟨.inr proms2, ?_⟩
        refine run ?_
        refine RegP.buildSlice fun E2 o2 y2 w2 => ?_
        have o2' : RowF IV 0 E2 (Sl.fresh E1.size 1) [x] := OwnR.rowF (f := IV) (l := [x]) o2
        have d2 := d1.ext y2
        have o12 := o1.ext y2
        have hb2 := d2.book
        have gs1 := d1.size
        refine run ?_
        refine RegP.append (f := IV) o12 o2' (fun _ => rfl) (by have := c1.size; have := y2.size; omega) ?_ ?_ ?_
        · simp only [List.length_take, List.length_singleton]; omega
        · simp only [List.length_take, List.length_singleton]; omega
        intro W' E3 o3 c3 b3
        have hW : ∀ b, W.blk = some b → G3 ≤ b := fun b hb => (o12.blk_ge hb).1
        have d3 := d2.chg (c3.mono fun b hb e => by have := hW b e; have := xA.size; omega)
        have xx3 := (xx1.trans y2).then c3 fun b hb => by have := hW b hb; have := xA.size; omega
        have h3 := (h1.ext y2).chg c3 fun b hb e => by have := hDb b hb; have := hW b e; omega
        have u3 := (u1.ext y2).chg c3 fun b hb e => by have := hUb b hb; have := hW b e; omega
        have hb3 := d3.book
        refine ⟨.inr proms2, ?_⟩
        refine run ?_
        refine RegP.store (v := W'.val) (Blk.wr hb3 (j := 5) (by simp)) ?_ ?_
        · exact proms2
        have d4 : DecAt _ H2.size G H.size rb H2.size H5.size [IV k.session, IV k.decided, IV k.epoch, D.val, U.val, W'.val] _ _ _ := d3.set 5 W'.val
        have xx4 := gk 5 W'.val xx3
        have c4 := hset_chg E3 ⟨H5.size, 5, none⟩ W'.val
        have o4 := o3.chg c4 fun b hb e => by have := (o3.blk_ge hb).1; have := xA.size; simp only at e; omega
        have h4 := h3.chg c4 fun b hb e => by have := hDb b hb; simp only at e; omega
        have u4 := u3.chg c4 fun b hb e => by have := hUb b hb; have := xA.size; simp only at e; omega
        have gs4 : G3 ≤ (hset E3 ⟨H5.size, 5, none⟩ W'.val).size := by have := c1.size; have := y2.size; have := c3.size; have := c4.size; omega
        generalize hset E3 ⟨H5.size, 5, none⟩ W'.val = E4 at d4 xx4 o4 h4 u4 gs4 ⊢
        refine run ?_
        refine roundQ_n (i + 1, W', t1) subs ⟨hit, d4, ?_, h4, u4, gs4, xx4⟩ (by show k.commit.length - (i + 1) < k.commit.length - i; omega)
        show OwnF IV E4 G3 3 W' (List.take (i + 1) k.commit)
        rw [hA]
        exact o4
      · have hlt : ¬ (i : Int) < (k.commit.length : Int) := hlt
        have hie : i = k.commit.length := by omega
        subst hie
        rw [List.drop_length] at dE
        rw [List.take_length] at oE
        have hin : BookIn E k ⟨D, U, W⟩ := ⟨hE.hrow, OwnR.rowF uE, OwnR.rowF oE⟩
        refine run ?_
        refine RegS.call (encodeBook_ok k ⟨D, U, W⟩ E hin hsm) ?_
        rintro _ E1 ⟨c, rfl, rc, y1, g1⟩
        rw [hgood]
        rw [hgood, if_neg (by simp)] at rc
        have d1 := dE.ext y1
        have hb1 := d1.book
        have he1 := d1.eye
        have hs1 := hs.ext (xE.trans y1)
        refine run ?_
        refine RegS.call (rdone_ok d1.rd) ?_
        rintro _ E2 ⟨rfl, rfl⟩
        rw [show (!false && dec ((putB ([] : List Int)).length = 0)) = true by rw [dec_pos (by simp [putB])]; rfl]
        refine run ?_
        refine RegS.call (sEqual_ok c s _ _ E1 rc hs1 (by omega)) ?_
        rintro _ E2 ⟨rfl, rfl⟩
        rw [dec_pos rfl]
        have hres := d1.res
        refine run ?_
        refine RegS.storeA (us := [IV k.session, IV k.decided, IV k.epoch, D.val, U.val, W.val]) hres ?_
        have c9 := hsets_chg H.size [IV k.session, IV k.decided, IV k.epoch, D.val, U.val, W.val] 0 E1
        have b9 : Blk (hsets E1 H.size 0 [IV k.session, IV k.decided, IV k.epoch, D.val, U.val, W.val]) H.size 55 [IV k.session, IV k.decided, IV k.epoch, D.val, U.val, W.val] := Blk.sets [IV k.session, IV k.decided, IV k.epoch, D.val, U.val, W.val] 0 hres
        have xx1 := xE.trans y1
        generalize hsets E1 H.size 0 [IV k.session, IV k.decided, IV k.epoch, D.val, U.val, W.val] = E3 at c9 b9 ⊢
        have hWb : ∀ b, W.blk = some b → G3 ≤ b := fun b hb => (oE.blk_ge hb).1
        have zA := xA.size
        refine run ?_
        refine retcA (cs := [IV k.session, IV k.decided, IV k.epoch, D.val, U.val, W.val]) b9 ⟨⟨D, U, W⟩, rfl, ⟨(hin.ext y1).dir.chgN c9 fun hp b hb e => ?_, (hin.ext y1).up.chgN c9 fun hp b hb => ⟨(hin.ext y1).up.lt hp b hb, fun e => ?_⟩, (hin.ext y1).com.chgN c9 fun hp b hb => ⟨(hin.ext y1).com.lt hp b hb, fun e => ?_⟩⟩, xx1.then c9 fun b hb => by omega, fun b hb => ?_, fun b hb => ?_, fun b hb => ?_, ⟨((hE.ext y1).chg c9 fun b hb e => ?_).low (by omega), ((uE.ext y1).chg c9 fun b hb e => ?_).low (by omega), ((oE.ext y1).chg c9 fun b hb e => ?_).low (by omega), fun b hb => ⟨fun e => ?_, fun e => ?_⟩, fun b hb e => ?_⟩⟩
        · have := hDb b hb; omega
        · have := hUb b hb; omega
        · have := hWb b hb; omega
        · have := hDb b hb; omega
        · have := hUb b hb; omega
        · have := hWb b hb; omega
        · have := hDb b hb; omega
        · have := hUb b hb; omega
        · have := hWb b hb; omega
        · have := hDb b hb; have := hUb b e; omega
        · have := hDb b hb; have := hWb b e; omega
        · have := hUb b hb; have := hWb b e; omega
end Go.Proofs.YtaikdcnifijcoaaGreat
