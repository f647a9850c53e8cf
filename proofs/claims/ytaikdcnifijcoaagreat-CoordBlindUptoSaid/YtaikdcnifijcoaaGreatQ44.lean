/-
  The walk of coord.judge: who has something else than all others.
-/
import Derived.Test.YtaikdcnifijcoaaGreatQ43
set_option linter.unusedVariables false
set_option linter.unusedSimpArgs false
namespace Go.Vc
theorem Chg.low {S T : Nat → Prop} {X Y Z : Heap} (c : Chg S X Y) (k : Chg T Y Z) (h : ∀ b, b < X.size → T b → S b) : Chg S X Z :=
  ⟨Nat.le_trans c.size k.size, fun b hb hs => (k.get b (Nat.lt_of_lt_of_le hb c.size) fun ht => hs (h b hb ht)).trans (c.get b hb hs)⟩
end Go.Vc
namespace Go.Proofs.YtaikdcnifijcoaaGreat
open Go Go.Vc Go.Gf
open Classical in
/-- Who has something else, if that can be told. -/
noncomputable def wrongC (N T K E : Nat) (cols : Int) (fl : List Int) (rows : List (List UInt8)) : Option (List Int) :=
  if h : ∃ qs hs, isFound N T K E cols fl rows hs qs then some ((offs N h.choose_spec.choose rows h.choose).map fun (n : Nat) => (n : Int)) else none
theorem wrongC_some {N T K E : Nat} {cols : Int} {fl : List Int} {rows : List (List UInt8)} {hs : List Nat} {qs : List (List UInt8)} (h : isFound N T K E cols fl rows hs qs) : wrongC N T K E cols fl rows = some ((offs N hs rows qs).map fun (n : Nat) => (n : Int)) := by
  have h' : ∃ qs hs, isFound N T K E cols fl rows hs qs := ⟨qs, hs, h⟩
  rw [wrongC, dif_pos h']
  have h2 := h'.choose_spec.choose_spec
  obtain ⟨e1, e2⟩ := isFound.one h2 h
  rw [e1, e2]
theorem wrongC_none {N T K E : Nat} {cols : Int} {fl : List Int} {rows : List (List UInt8)} (h : ∀ hs qs, ¬ isFound N T K E cols fl rows hs qs) : wrongC N T K E cols fl rows = none := by
  rw [wrongC, dif_neg]
  rintro ⟨qs, hs, k⟩
  exact h _ _ k
/-- Who is not up: the first i. -/
def downL (up : List Bool) (i : Nat) : List Int := ((List.range i).filter fun n => !(up.getD n false)).map fun (n : Nat) => (n : Int)
theorem downL_succ (up : List Bool) (i : Nat) : downL up (i + 1) = downL up i ++ if up.getD i false = false then [(i : Int)] else [] := by
  unfold downL
  rw [List.range_succ, List.filter_append, List.map_append]
  congr 1
  by_cases h : up.getD i false = false
  · rw [if_pos h, List.filter_cons_of_pos (by rw [h]; rfl)]; rfl
  · rw [if_neg h, List.filter_cons_of_neg (by simpa using h)]; rfl
theorem downL_in (up : List Bool) (N : Nat) : InN N (downL up N) := by
  refine ⟨?_, fun n hn => ?_⟩
  · unfold downL
    rw [List.length_map]
    exact Nat.le_trans (List.length_filter_le _ _) (by simp)
  · obtain ⟨k, hk, rfl⟩ := List.mem_map.1 hn
    have := List.mem_range.1 (List.mem_filter.1 hk).1
    omega
theorem downL_len (up : List Bool) (i : Nat) : (downL up i).length ≤ i := (downL_in up i).len
noncomputable def cJudge (down : Bool) (N T K E : Nat) (c : CSt) : COut := match wrongC N T K E (colsA K c.v.dir : Nat) (keysC c.t.got) (rowsC c.t.got) with
  | none => cEnd 5 c
  | some wl => if (markA down c.s c.v wl).2 ≠ 0 then cEnd ((markA down c.s c.v wl).2 : Nat) ⟨(markA down c.s c.v wl).1, bkV down c.s c.v (markV c.v wl) 0, c.t⟩ else
    cOn down N (T + K + E) ⟨(markA down c.s c.v wl).1, markV c.v wl, { c.t with list := wl, queue := downL (markV c.v wl).up N }⟩
section
variable {S : Nat → Prop} {H H' A B : Heap} {O O' OA : Ow} {cb fb bb sb N T K E R : Nat} {down : Bool} {c : CSt} {ts : TaskS}
theorem GotRow.len2 {b : Nat} {l : SV} {d : CV} (h : GotRow H O b l d) : l.length = d.length := by simpa using congrArg List.length h.keys
theorem GotRow.order2 {b : Nat} {l : SV} {d : CV} (h : GotRow H O b l d) : keysOf l = keysC d := by rw [keysOf, keysC, h.keys]
theorem GotRow.brows {b : Nat} {l : SV} {d : CV} {t : Sl} (h : GotRow H O b l d) (ht : RowF Sl.val Sl.nil H t (rowsOf l)) : BRows H t (rowsOf l) (rowsC d) := by
  have hkl : (keysC d).length = (keysOf l).length := by rw [h.order2]
  refine ⟨ht, by simp [rowsOf, rowsC, hkl], fun k hk => ?_⟩
  have hk' : k < (keysC d).length := by simpa [rowsC] using hk
  have e1 : (rowsOf l).getD k Sl.nil = (sget l ((keysC d).getD k 0)).getD Sl.nil := by
    rw [← h.order2]
    simp [rowsOf, List.getD_eq_getElem?_getD, List.getElem?_eq_getElem (show k < (keysOf l).length by omega)]
  have e2 : (rowsC d).getD k [] = (cget d ((keysC d).getD k 0)).getD [] := by
    simp [rowsC, List.getD_eq_getElem?_getD, List.getElem?_eq_getElem hk']
  rw [e1, e2]
  rcases h.at ((keysC d).getD k 0) with ⟨x1, x2⟩ | ⟨s, d, x1, x2, hb⟩
  · rw [x1, x2]; exact Bytes.nil _
  · rw [x1, x2]; exact hb.row
set_option maxHeartbeats 16000000 in
theorem coJudge_ok (hn : N ≤ 255) (hT0 : 1 ≤ T) (hT : T ≤ 255) (hK0 : 1 ≤ K) (hK : K ≤ 255) (hE : E ≤ 255) (hd : T + K ≤ 256) (hw : WfO H O) (h : CoIs H O cb fb bb sb N T K E R down c ts) (hgs : ts.got.isSome = true) (hqn : ts.queue = Sl.nil) (hk : InN N (keysC c.t.got)) :
    CallsH Tryz.prog 152 [ptrD cb] H (OutR H O cb fb bb sb N T K E R down (cJudge down N T K E c)) := by
  obtain ⟨tp, td, tl, tq, tg⟩ := ts
  have hqn : tq = Sl.nil := hqn
  subst hqn
  have hgs : tg.isSome = true := hgs
  obtain ⟨mb, rfl⟩ := Option.isSome_iff_exists.1 hgs
  have hkl : (keysC c.t.got).length = c.t.got.length := by simp [keysC, sorted_length]
  have hkn := hk.len
  refine CallsH.enter h152 Tryz.func152 rfl rfl rfl (by decide) fun u => run ?_
  refine RegS.allocA fun H1 x1 z1 b1 => ?_
  have b1 : Blk H1 H.size 51 (ansC ans0 ansS0) := b1
  obtain ⟨k9, O1, hk9, hno, st1, ho⟩ := cell_new hw x1 z1
  have h1 := h.step st1 id id id id id
  have s1 : Step (fun x => Co x ∨ x = k9) H O H1 O1 := w0 st1
  refine run ?_
  refine RegS.call (coAnswered_ok (c := c) mb st1.wf h1.at_ rfl (by omega)) ?_
  rintro _ H2 ⟨w, rfl, hwr, x2, gw⟩
  have st2 : Step (fun _ => False) H1 O1 H2 O1 := x2.step st1.wf
  have h2 := h1.step st2 id id id id id
  have b2 := b1.ext x2
  have s2 := s1.trans (w0 st2)
  obtain ⟨l, gr⟩ : ∃ l, GotRow H2 O1 mb l c.t.got := h2.at_.task.got
  have hll := gr.len2
  have hrl : (rowsOf l).length = (keysC c.t.got).length := by simp [rowsOf, gr.order2]
  have hb2 := h2.at_.blk
  refine run ?_
  refine Wp.loop (ι := Nat × Sl) (fun i => [(0, ptrD cb), (2, ptrD H.size), (4, w.val), (5, i.2.val), (16, w.val), (17, I64 (keysC c.t.got).length), (18, I64 i.1)]) (fun i A => i.1 ≤ (keysC c.t.got).length ∧ Ext H2 A ∧ OwnF Sl.val A H2.size 36 i.2 ((rowsOf l).take i.1)) (fun i => (keysC c.t.got).length - i.1) (0, Sl.nil) subs ⟨Nat.zero_le _, Ext.refl _, OwnR.nil _ _ _ _⟩ ?_
  rintro ⟨i, a⟩ A ⟨hi, eA, hA⟩
  have hi : i ≤ (keysC c.t.got).length := hi
  have hA : OwnF Sl.val A H2.size 36 a ((rowsOf l).take i) := hA
  have eA : Ext H2 A := eA
  have zA := eA.size
  have rA := hwr.ext eA
  have stA : Step (fun _ => False) H2 O1 A O1 := eA.step st2.wf
  have hcA := h2.step stA id id id id id
  have hbA := hcA.at_.blk
  have grA : GotRow A O1 mb l c.t.got := ⟨gr.map.ext eA, gr.own, gr.keys, fun i hi => (gr.rows i hi).step stA id⟩
  have mA := grA.map
  show Wp _ _ _ [(0, ptrD cb), (2, ptrD H.size), (4, w.val), (5, a.val), (16, w.val), (17, I64 (keysC c.t.got).length), (18, I64 i)] _ _
  refine run ?_
  refine Wp.br (fun hlt => ?_) (fun hlt => ?_)
  · have hlt : (i : Int) < ((keysC c.t.got).length : Int) := hlt
    have hmem : (keysC c.t.got).getD i 0 ∈ l.map (·.1) := by
      have : (keysC c.t.got).getD i 0 ∈ keysOf l := by
        rw [gr.order2, getD_get _ (show i < (keysC c.t.got).length by omega)]
        exact List.getElem_mem _
      exact (sorted_mem _ _).1 this
    have hwf : i64 ((keysC c.t.got).getD i 0) := by
      obtain ⟨q, hq, e⟩ := List.mem_map.1 hmem
      rw [← e]
      exact mA.wf (q.1, q.2.val) (List.mem_map.2 ⟨q, hq, rfl⟩)
    refine run ?_
    refine RegS.lookup1 mA hwf ?_
    have hval : (mget (kvs l) ((keysC c.t.got).getD i 0)).getD Sl.nil.val = ((sget l ((keysC c.t.got).getD i 0)).getD Sl.nil).val := by
      rw [mget_kvs]
      cases sget l ((keysC c.t.got).getD i 0) <;> rfl
    rw [show (Value.slice none 0 0) = Sl.nil.val from rfl, hval]
    have hrow : (rowsOf l).getD i Sl.nil = (sget l ((keysC c.t.got).getD i 0)).getD Sl.nil := by
      rw [← gr.order2]
      simp [rowsOf, List.getD_eq_getElem?_getD, List.getElem?_eq_getElem (show i < (keysOf l).length by rw [gr.order2]; omega)]
    rw [← hrow]
    refine run ?_
    refine RegS.buildSlice fun A2 o3 y2 w2 => ?_
    have r3 : RowF Sl.val Sl.nil A2 (Sl.fresh A.size 1) [(rowsOf l).getD i Sl.nil] := OwnR.rowF (f := Sl.val) (l := [(rowsOf l).getD i Sl.nil]) o3
    have z2 := y2.size
    refine run ?_
    refine RegS.append (f := Sl.val) (hA.ext y2) r3 (fun _ => rfl) (by omega) ?_ ?_ ?_
    · simp only [List.length_singleton, List.length_take]; omega
    · simp only [List.length_singleton, List.length_take]; omega
    intro a' A3 hA' ca ba
    rw [← take_snoc' Sl.nil (show i < (rowsOf l).length by omega)] at hA'
    have e3 : Ext H2 A3 := (eA.trans y2).then ca fun b hb => (OwnR.blk_ge hA hb).1
    refine run ?_
    exact roundQ_n (i + 1, a') subs ⟨by show i + 1 ≤ _; omega, e3, hA'⟩ (by show _ - (i + 1) < _ - i; omega)
  have hlt : ¬ (i : Int) < ((keysC c.t.got).length : Int) := hlt
  have hie : i = (keysC c.t.got).length := by omega
  subst hie
  rw [← hrl, List.take_length] at hA
  have brA := grA.brows (OwnR.rowF hA)
  have hfA := hcA.at_.fld
  have hrc : (rowsC c.t.got).length = (keysC c.t.got).length := by simp [rowsC]
  have hcols := colsA_le hK0 (l := c.v.dir) fun x hx => (h.is.fit.each x hx).2.2
  have hdl := h.is.fit.dir
  have kA := b2.ext eA
  have s3 := s2.trans (w0 stA)
  refine run ?_
  refine RegP.call (coColumns_ok hn hK0 hK stA.wf hcA) ?_
  rintro _ H4 ⟨rfl, x4⟩
  refine ⟨.inl x4, ?_⟩
  have st4 : Step (fun _ => False) A O1 H4 O1 := x4.step stA.wf
  have h4 := hcA.step st4 id id id id id
  have hb4 := h4.at_.blk
  have k4 := kA.ext x4
  have s4 := s3.trans (w0 st4)
  refine run ?_
  refine RegP.call (find_ok fb N T K E R (colsA K c.v.dir : Nat) w a (rowsOf l) (keysC c.t.got) (rowsC c.t.got) H4 h4.at_.fld (rA.ext x4) (brA.ext x4) (by omega) (by omega) hT0 hT hK hE hn (by omega) hd) ?_
  rintro _ H5 ⟨x5, hres⟩
  refine ⟨.inl x5, ?_⟩
  have st5 : Step (fun _ => False) H4 O1 H5 O1 := x5.step st4.wf
  have h5 := h4.step st5 id id id id id
  have hb5 := h5.at_.blk
  have k5 := k4.ext x5
  have s5 := s4.trans (w0 st5)
  rcases hres with ⟨hs, qs, qa, qw, ss, hf, rfl, fs⟩ | ⟨hn', rfl⟩
  case inr =>
    rw [cJudge, wrongC_none hn']
    refine run ?_
    refine RegS.call (coEndR_ok (e := 5) st5.wf h5) ?_
    rintro r B hr
    obtain ⟨sa, w', rfl, kB, b6, hout⟩ := OutR.close s5 hno hr k5 ho hk9 rfl
    refine run ?_
    refine RegS.storeA (us := ansC (cEnd 5 c).1 sa) kB ?_
    generalize hsets B H.size 0 (ansC (cEnd 5 c).1 sa) = BB at b6 hout ⊢
    refine run ?_
    exact retcA b6 hout
  rw [cJudge, wrongC_some hf]
  have hwr5 : RowF IV 0 H5 qw ((offs N hs (rowsC c.t.got) qs).map fun (n : Nat) => (n : Int)) := OwnR.rowF (ownF_int fs.wr)
  have hol := offs_len N hs (rowsC c.t.got) qs
  have gqw : ∀ b, qw.blk = some b → H4.size ≤ b := fun b hb => (OwnR.blk_ge fs.wr hb).1
  obtain ⟨wl, hwl⟩ : ∃ wl, wl = (offs N hs (rowsC c.t.got) qs).map fun (n : Nat) => (n : Int) := ⟨_, rfl⟩
  rw [← hwl] at hwr5 ⊢
  have hwll : wl.length ≤ 255 := by rw [hwl, List.length_map]; omega
  have ro5 : RoF IV 0 H5 O1 qw wl := RoF.new hwr5 st4.wf gqw
  clear hwl fs hf
  refine run ?_
  refine RegS.call (mark_ok c.v qw wl hn (by omega) st5.wf h5.at_.book h5.is hwr5) ?_
  rintro _ H6 ⟨rfl, O6, st6, hk6⟩
  have hfit : BookFit N (markV c.v wl) := markV_fit h.is.fit
  have c6 := h5.at_.ofBook st6 (by decide) (by decide) (by decide) hk6
  have h6 : CoIs H6 O6 cb fb bb sb N T K E R down ⟨(markA down c.s c.v wl).1, bkV down c.s c.v (markV c.v wl) 0, c.t⟩ ⟨tp, td, tl, Sl.nil, some mb⟩ := ⟨c6, bk_is h5.is fun _ => hfit, h5.ok⟩
  have s6 := s5.trans (wC (st6.mono fun x e => by subst e; exact ⟨by omega, by omega⟩))
  have k6 := k5.step st6 (by omega)
  have ho6 := st6.own k5.lt ho
  have ro6 := ro5.step st6 (by decide)
  refine run ?_
  refine Wp.br (fun he => ?_) (fun he => ?_)
  · have he0 : (markA down c.s c.v wl).2 ≠ 0 := fun e => by rw [e] at he; exact he rfl
    simp only [if_pos he0]
    refine run ?_
    refine RegS.call (coEndR_ok (c := ⟨(markA down c.s c.v wl).1, bkV down c.s c.v (markV c.v wl) 0, c.t⟩) (e := ((markA down c.s c.v wl).2 : Nat)) st6.wf h6) ?_
    rintro r B hr
    obtain ⟨sa, w', rfl, kB, b7, hout⟩ := OutR.close s6 hno hr k6 ho6 hk9 rfl
    refine run ?_
    refine RegS.storeA (us := ansC (cEnd ((markA down c.s c.v wl).2 : Nat) ⟨(markA down c.s c.v wl).1, bkV down c.s c.v (markV c.v wl) 0, c.t⟩).1 sa) kB ?_
    generalize hsets B H.size 0 (ansC (cEnd ((markA down c.s c.v wl).2 : Nat) ⟨(markA down c.s c.v wl).1, bkV down c.s c.v (markV c.v wl) 0, c.t⟩).1 sa) = BB at b7 hout ⊢
    refine run ?_
    exact retcA b7 hout
  have he0 : (markA down c.s c.v wl).2 = 0 := by
    have := Classical.not_not.1 he
    omega
  have hnn : ¬ (markA down c.s c.v wl).2 ≠ 0 := fun k => k he0
  simp only [if_neg hnn]
  obtain ⟨_, _, _, hbv⟩ := bk_zero (v := c.v) he0
  rw [hbv] at h6
  have hb6 := h6.at_.blk
  refine run ?_
  refine RegS.store (v := qw.val) (Blk.wr hb6 (j := 16) (by simp)) ?_
  have b7 : Blk (hset H6 ⟨cb, 16, none⟩ qw.val) cb 122 (coordC N T K E R fb bb { c.t with list := wl } ⟨tp, td, qw, Sl.nil, some mb⟩) := Blk.set (j := 16) (v := qw.val) hb6
  have c7 : Chg (· = cb) H6 (hset H6 ⟨cb, 16, none⟩ qw.val) := hset_chg H6 ⟨cb, 16, none⟩ qw.val
  have ht6 := h6.at_.task
  obtain ⟨h7, st7⟩ := h6.at_.turn (t' := { c.t with list := wl }) (ts' := ⟨tp, td, qw, Sl.nil, some mb⟩) st6.wf c7 b7 ⟨ht6.parts, ht6.dealers, ro6, ht6.queue, ht6.got⟩
  have k7 := k6.step st7 (by omega)
  have ho7 := st7.own k6.lt ho6
  have s7 := s6.trans (wC (st7.mono fun x e => by subst e; exact ⟨by omega, by omega⟩))
  generalize hset H6 ⟨cb, 16, none⟩ qw.val = H7 at b7 c7 h7 st7 k7 s7 ⊢
  refine run ?_
  refine RegS.call (view_ok (markV c.v wl) hn st7.wf h7.book h6.is) ?_
  rintro _ H8 ⟨kk, rfl, hi8, x8, g1, g2, g3, nw⟩
  have st8 : Step (fun _ => False) H7 O6 H8 O6 := x8.step st7.wf
  have h8 := h7.step st8 id id id id id
  have k8 := k7.ext x8
  have s8 := s7.trans (w0 st8)
  have hu8 : RowF Value.bool false H8 kk.up (markV c.v wl).up := hi8.up
  have hul : (markV c.v wl).up.length = N := hfit.up
  have hb8 := h8.blk
  have lcb := hb8.lt
  obtain ⟨up, hup⟩ : ∃ up, up = (markV c.v wl).up := ⟨_, rfl⟩
  rw [← hup] at hu8 hul
  refine run ?_
  refine Wp.loop (ι := Nat × Sl) (fun i => [(0, ptrD cb), (2, ptrD H.size), (79, kk.up.val), (80, I64 up.length), (81, I64 i.1)]) (fun i A => i.1 ≤ N ∧ OwnF IV A H8.size 3 i.2 (downL up i.1) ∧ Chg (· = cb) H8 A ∧ Blk A cb 122 (coordC N T K E R fb bb { c.t with list := wl } ⟨tp, td, qw, i.2, some mb⟩)) (fun i => N - i.1) (0, Sl.nil) subs ⟨Nat.zero_le _, OwnR.nil _ _ _ _, Chg.refl _ _, hb8⟩ ?_
  rintro ⟨i, q⟩ A ⟨hi, oA, cA, bA⟩
  have hi : i ≤ N := hi
  have oA : OwnF IV A H8.size 3 q (downL up i) := oA
  have cA : Chg (· = cb) H8 A := cA
  have bA : Blk A cb 122 (coordC N T K E R fb bb { c.t with list := wl } ⟨tp, td, qw, q, some mb⟩) := bA
  have zA := cA.size
  have uA := hu8.chgN cA fun hp b hb => ⟨hu8.lt hp b hb, fun e => by
    have h1 := g2 b hb
    have h2 := h7.blk.lt
    omega⟩
  have hds := downL_succ up i
  have hdl := downL_len up i
  show Wp _ _ _ [(0, ptrD cb), (2, ptrD H.size), (79, kk.up.val), (80, I64 up.length), (81, I64 i)] _ _
  refine run ?_
  refine Wp.br (fun hlt => ?_) (fun hlt => ?_)
  · have hlt : (i : Int) < (up.length : Int) := hlt
    refine run ?_
    cases hui : up.getD i false with
    | true =>
      rw [if_neg (by rw [hui]; decide), List.append_nil] at hds
      refine run ?_
      exact roundQ_n (i + 1, q) subs ⟨by show i + 1 ≤ _; omega, by show OwnF IV _ _ _ q (downL up (i + 1)); rw [hds]; exact oA, cA, bA⟩ (by show _ - (i + 1) < _ - i; omega)
    | false =>
      rw [if_pos hui] at hds
      refine run ?_
      refine RegS.buildSlice fun A2 o3 y2 w2 => ?_
      have r3 : RowF IV 0 A2 (Sl.fresh A.size 1) [(i : Int)] := OwnR.rowF (f := IV) (l := [(i : Int)]) o3
      have z2 := y2.size
      have b2 := bA.ext y2
      refine run ?_
      refine RegS.append (f := IV) (oA.ext y2) r3 (fun _ => rfl) (by omega) ?_ ?_ ?_
      · simp only [List.length_singleton]; omega
      · simp only [List.length_singleton]; omega
      intro q' A3 o4 ca ba
      rw [← hds] at o4
      have b3 := b2.chg ca fun e => by have := (OwnR.blk_ge oA e).1; omega
      refine run ?_
      refine RegS.store (v := q'.val) (Blk.wr b3 (j := 17) (by simp)) ?_
      have b4 : Blk (hset A3 ⟨cb, 17, none⟩ q'.val) cb 122 (coordC N T K E R fb bb { c.t with list := wl } ⟨tp, td, qw, q', some mb⟩) := Blk.set (j := 17) (v := q'.val) b3
      have c4 : Chg (· = cb) A3 (hset A3 ⟨cb, 17, none⟩ q'.val) := hset_chg A3 ⟨cb, 17, none⟩ q'.val
      have o5 := OwnR.chg o4 c4 fun b hb => by have := (OwnR.blk_ge o4 hb).1; omega
      generalize hset A3 ⟨cb, 17, none⟩ q'.val = A4 at b4 c4 o5 ⊢
      refine run ?_
      exact roundQ_n (i + 1, q') subs ⟨by show i + 1 ≤ _; omega, o5, ((cA.low (y2.chg fun _ => False) fun b _ e => e.elim).low ca fun b hb e => by have := (OwnR.blk_ge oA e).1; omega).trans c4, b4⟩ (by show _ - (i + 1) < _ - i; omega)
  have hlt : ¬ (i : Int) < (up.length : Int) := hlt
  have hie : i = N := by omega
  subst hie
  have st9 : Step (· = 1) H8 O6 A O6 := cA.step st8.wf fun x _ e => by subst e; exact h8.own
  have ht8 := h8.task
  have h9 : CoAt A O6 cb fb bb sb i T K E R down (markA down c.s c.v wl).1 { c.t with list := wl, queue := downL up i } ⟨tp, td, qw, q, some mb⟩ :=
    ⟨bA, st9.own lcb h8.own, isField_chg h8.fld st9.chg (by rw [h8.fro]; decide), st9.own (hcell_lt (h8.fld.exp 0 (by omega))) h8.fro, h8.book.step st9 (by decide) (by decide) (by decide), ht8.parts.step st9 (by decide), ht8.dealers.step st9 (by decide), ht8.list.step st9 (by decide), ⟨OwnR.rowF oA, fun hp b hb => st8.wf.new b (OwnR.blk_ge oA hb).1⟩, ht8.got.step st9 (by decide) (by decide)⟩
  have h9 : CoIs A O6 cb fb bb sb i T K E R down ⟨(markA down c.s c.v wl).1, markV c.v wl, { c.t with list := wl, queue := downL up i }⟩ ⟨tp, td, qw, q, some mb⟩ := ⟨h9, h6.is, ⟨h6.ok.phase, h6.ok.parts, h6.ok.dealers, downL_in up i, h6.ok.got, h6.ok.keys⟩⟩
  rw [← hup]
  have k9' := k8.step st9 (by rw [st8.own k7.lt ho7]; omega)
  have ho9 := st9.own k8.lt (st8.own k7.lt ho7)
  have s9 := s8.trans (wC (st9.mono fun x e => by subst e; exact ⟨by omega, by omega⟩))
  refine run ?_
  refine RegS.call (coOn_ok hn hT hK hE st9.wf h9) ?_
  rintro r B hr
  obtain ⟨sa, w', rfl, kB, b10, hout⟩ := OutR.close s9 hno hr k9' ho9 hk9 rfl
  refine run ?_
  refine RegS.storeA (us := ansC (cOn down i (T + K + E) ⟨(markA down c.s c.v wl).1, markV c.v wl, { c.t with list := wl, queue := downL up i }⟩).1 sa) kB ?_
  generalize hsets B H.size 0 (ansC (cOn down i (T + K + E) ⟨(markA down c.s c.v wl).1, markV c.v wl, { c.t with list := wl, queue := downL up i }⟩).1 sa) = BB at b10 hout ⊢
  refine run ?_
  exact retcA b10 hout
end
end Go.Proofs.YtaikdcnifijcoaaGreat
