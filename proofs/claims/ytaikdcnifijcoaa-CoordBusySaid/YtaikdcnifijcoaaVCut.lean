/-
  What many walks use: answers that lie in blocks, rows cloned, maps' rows, params.
-/
import Derived.Test.YtaikdcnifijcoaaVMsg3
import Derived.Test.YtaikdcnifijcoaaVGf
import Derived.Test.YtaikdcnifijcoaaVcMap
set_option linter.unusedVariables false
set_option linter.unusedSimpArgs false
namespace Go.Vc
theorem RegP.boxA {C : Cx} {ops : Array Oper} {L : Env} {ds : List Nat} {H : Heap} {K : Env → Heap → Prop} {o : Oper} {B : Array Nat} {p : Plan} {pend : List Rec} {i t d : Nat} {keep : List Nat} {x : Operand} {cs : List Value}
    (k : ∀ H', Ext H H' → H'.size = H.size + 1 → Blk H' H.size t cs → RegP C ops B p (pfilter keep pend) ((d, .pointer (some ⟨H.size, 0, none⟩)) :: L) ds H' K)
    (hi : ops[i]? = some o := by rfl) (ho : o.op = .box t x := by rfl) (hx : L.ev x = some (.agg cs.toArray) := by rfl) (hds : o.dst = some d := by rfl) (hg : gd ops o L = some true := by rfl) (hd : Nat.blt d C.N = true := by rfl) : RegP C ops B (.e i keep p .nil) pend L ds H K :=
  RegP.ef (Ef.box ho hx (by rw [hds]; exact ⟨.inl (Ext.push _ _), k _ (Ext.push _ _) (by simp) ⟨by rw [Array.getElem?_push, if_pos rfl]; rfl⟩⟩)) hi hg (by rw [hds]; exact hd)
theorem run_loadBlk {P : Program} [Tbl P] {w : World} {t b e sz bt : Nat} {d : TypeDesc} {z : Value} {cs : List Value} (ht : ty P t = some ⟨d, sz, bt, z⟩) (hd : isAggD d = true) (hn : Nat.beq sz cs.length = true) (hb : Blk w.heap b e cs) : (loadVar t ⟨b, 0, none⟩).run P w = .ok (.agg cs.toArray) w := by
  have hag := ty.agg ht w
  rw [hd] at hag
  have hsz := Nat.eq_of_beq_eq_true hn
  subst hsz
  have hl := run_loadCellsFrom (P := P) (w := w) (a := ⟨b, 0, none⟩) cs 0 #[] fun j hj => ⟨cs[j], List.getElem?_eq_getElem hj, by
    rw [Nat.zero_add, add_plain]
    show hcell w.heap _ = _
    rw [blk_cell hb.at_]
    simp⟩
  simp only [loadVar, Sem.run_bind, hag, Result.andThen, if_true, ty.sizeOf ht, loadCells, hl, Sem.run_pure]
  simp
theorem res_cellA {P : Program} [Tbl P] {fn : Func} {N : Nat} {L : Env} {H : Heap} {t₁ t₂ e₁ e b sz bt : Nat} {d : TypeDesc} {z v₂ : Value} {cs : List Value} (h : fn.results = #[.cell t₁ e₁, .tmp t₂]) (h1 : L.get t₁ = some (.pointer (some ⟨b, 0, none⟩))) (h2 : L.get t₂ = some v₂) (hb : Blk H b e cs)
    (y1 : ty P e₁ = some ⟨d, sz, bt, z⟩) (hd : isAggD d = true) (hn : Nat.beq sz cs.length = true) : Res P fn N L H (.tuple #[.agg cs.toArray, v₂]) := fun a ds w hw k => by
  subst hw
  have e1 := k.get' h1
  have e2 := k.get' h2
  have l1 := run_loadBlk (P := P) y1 hd hn hb
  simp [results, h, e1, e2, asAddr, Sem.run_bind, Sem.run, l1, Result.andThen]
theorem retcA {C : Cx} {L : Env} {H : Heap} {fn : Func} {R : Value → Heap → Prop} [Tbl C.P] {t₁ t₂ e₁ e b sz bt : Nat} {d : TypeDesc} {z v₂ : Value} {cs : List Value} (hb : Blk H b e cs) (hR : R (.tuple #[.agg cs.toArray, v₂]) H) (h : fn.results = #[.cell t₁ e₁, .tmp t₂] := by rfl) (h1 : L.get t₁ = some (.pointer (some ⟨b, 0, none⟩)) := by rfl) (h2 : L.get t₂ = some v₂ := by rfl)
    (y1 : ty C.P e₁ = some ⟨d, sz, bt, z⟩ := by rfl) (hd : isAggD d = true := by rfl) (hn : Nat.beq sz cs.length = true := by rfl) : retQ C fn R .ret L [] H := ret_plain (res_cellA h h1 h2 hb y1 hd hn) hR
end Go.Vc
namespace Go.Proofs.Ytaikdcnifijcoaa
open Go Go.Vc Go.Gf
abbrev ptrV (b : Nat) : Value := .pointer (some ⟨b, 0, none⟩)
theorem cloneI_ok (s : Sl) (l : List Int) (H : Heap) (hb : RowF IV 0 H s l) (hl : l.length ≤ 2000000) : CallsH Try.prog 89 [s.val] H fun v H' => ∃ s' : Sl, v = s'.val ∧ RowF IV 0 H' s' l ∧ Ext H H' ∧ ∀ b, s'.blk = some b → H.size ≤ b := by
  refine CallsH.enter h89 Try.func89 rfl rfl rfl (by decide) fun u => go ?_
  refine Wp.brB (fun h => ?_) (fun h => ?_) <;> refine go ?_
  · have h0 := s.ok (by simpa using h)
    have hl0 : l = [] := List.eq_nil_of_length_eq_zero (by have := hb.len; omega)
    subst hl0
    exact ret1 ⟨_, rfl, RowF.nil _, Ext.refl _, fun b h => by simp [Sl.blk, Sl.nil] at h⟩
  · refine RegS.buildSlice fun H1 o1 e1 z1 => ?_
    have o1 : OwnF IV H1 H.size 3 (Sl.fresh H.size 0) [] := o1
    refine go ?_
    refine RegS.append (f := IV) o1 (hb.ext e1) (fun _ => rfl) (by omega) ?_ ?_ ?_
    · simp only [List.length_nil]; omega
    · simp only [List.length_nil]; omega
    intro s' H2 o2 c2 b2
    rw [List.nil_append] at o2
    refine go ?_
    exact ret1 ⟨_, rfl, OwnR.rowF o2, e1.then c2 fun b hb => (o1.blk_ge hb).1, fun b hb => (o2.blk_ge hb).1⟩
theorem cloneH_ok (s : Sl) (l : List HdT) (H : Heap) (hb : HRow H s l) (hl : l.length ≤ 2000000) : CallsH Try.prog 88 [s.val] H fun v H' => ∃ s' : Sl, v = s'.val ∧ HRow H' s' l ∧ Ext H H' ∧ ∀ b, s'.blk = some b → H.size ≤ b := by
  refine CallsH.enter h88 Try.func88 rfl rfl rfl (by decide) fun u => go ?_
  refine Wp.brB (fun h => ?_) (fun h => ?_) <;> refine go ?_
  · have h0 := s.ok (by simpa using h)
    have hl0 : l = [] := List.eq_nil_of_length_eq_zero (by have := hb.len; omega)
    subst hl0
    exact ret1 ⟨_, rfl, HRow.nil _, Ext.refl _, fun b h => by simp [Sl.blk, Sl.nil] at h⟩
  · refine RegS.buildNone 55 2 fun H1 o1 e1 z1 => ?_
    have hb1 := hb.ext e1
    have hlen := hb.len
    refine go ?_
    refine RegS.appendN o1 (r := s) (ys := l.flatMap hdV) (by rw [hdV_flat, hlen]) hb1.get (hdV_one l) (by omega) ?_ ?_ ?_
    · show (0 + s.len) * _ ≤ _; omega
    · show 0 + s.len ≤ _; omega
    intro s' H2 o2 c2 b2
    rw [List.nil_append] at o2
    refine go ?_
    exact ret1 ⟨_, rfl, OwnR.hrow o2, e1.then c2 fun b hb => (o1.blk_ge hb).1, fun b hb => (o2.blk_ge hb).1⟩
theorem isField_chg {S : Nat → Prop} {H H' : Heap} {b : Nat} (h : IsField H b) (c : Chg S H H') (hs : ¬ S b) : IsField H' b := ⟨fun k hk => c.cell (h.exp k hk) hs, fun a => c.cell (h.log a) hs⟩
/-- A map's rows. -/
abbrev SV := List (Int × Sl)
def sget : SV → Int → Option Sl
  | [], _ => none
  | p :: r, k => if p.1 = k then some p.2 else sget r k
def kvs (l : SV) : KV := l.map fun p => (p.1, p.2.val)
theorem mget_kvs : ∀ (l : SV) (k : Int), mget (kvs l) k = (sget l k).map Sl.val
  | [], _ => rfl
  | p :: r, k => by
    simp only [kvs, List.map_cons, mget, sget]
    split
    · rfl
    · exact mget_kvs r k
def sput : SV → Int → Sl → SV
  | [], k, v => [(k, v)]
  | p :: r, k, v => if p.1 = k then (k, v) :: r else p :: sput r k v
theorem mput_kvs : ∀ (l : SV) (k : Int) (s : Sl), mput (kvs l) k s.val = kvs (sput l k s)
  | [], _, _ => rfl
  | p :: r, k, s => by
    have ih := mput_kvs r k s
    simp only [kvs, List.map_cons, mput, sput] at ih ⊢
    split
    · rfl
    · rw [List.map_cons, ih]
theorem kvs_keys (l : SV) : (kvs l).map (·.1) = l.map (·.1) := by simp [kvs, List.map_map, Function.comp_def]
abbrev CV := List (Int × List UInt8)
def cget : CV → Int → Option (List UInt8)
  | [], _ => none
  | p :: r, k => if p.1 = k then some p.2 else cget r k
theorem pair_at {P : Sl → List UInt8 → Prop} : ∀ (l : SV) (c : CV), l.map (·.1) = c.map (·.1) → (∀ i, i < l.length → P (l.getD i (0, Sl.nil)).2 (c.getD i (0, [])).2) → ∀ q, (sget l q = none ∧ cget c q = none) ∨ ∃ s d, sget l q = some s ∧ cget c q = some d ∧ P s d
  | [], [], _, _, q => .inl ⟨rfl, rfl⟩
  | [], b :: c, h, _, _ => by simp at h
  | a :: l, [], h, _, _ => by simp at h
  | a :: l, b :: c, h, hP, q => by
    simp only [List.map_cons, List.cons.injEq] at h
    have ih := pair_at l c h.2 (fun i hi => by have := hP (i + 1) (by simpa using hi); simpa using this) q
    have h0 := hP 0 (by simp)
    simp only [List.getD_cons_zero] at h0
    simp only [sget, cget, ← h.1]
    by_cases e : a.1 = q
    · rw [if_pos e, if_pos e]; exact .inr ⟨_, _, rfl, rfl, h0⟩
    · rw [if_neg e, if_neg e]; exact ih
theorem sget_none : ∀ {l : SV} {q : Int}, sget l q = none → ∀ p ∈ l, p.1 ≠ q
  | [], _, _, p, hp => by cases hp
  | a :: l, q, h, p, hp => by
    simp only [sget] at h
    split at h
    · cases h
    · rename_i hne
      rcases List.mem_cons.1 hp with rfl | hp
      · exact hne
      · exact sget_none h p hp
theorem sput_new : ∀ {l : SV} {q : Int} {s : Sl}, sget l q = none → sput l q s = l ++ [(q, s)]
  | [], _, _, _ => rfl
  | a :: l, q, s, h => by
    simp only [sget] at h
    split at h
    · cases h
    · rename_i hne
      simp only [sput, if_neg hne, List.cons_append]
      rw [sput_new h]
abbrev pmL (N T K E R : Nat) : List Value := [I64 N, I64 T, I64 K, I64 E, I64 R]
abbrev pmV (N T K E R : Nat) : Value := .agg #[I64 N, I64 T, I64 K, I64 E, I64 R]

abbrev pmI (N T K E R : Int) : Value := .agg #[IV N, IV T, IV K, IV E, IV R]
def GoodP (N T K E R : Int) : Prop := (∀ k, k < 4 → 0 ≤ [N, T, K, E].getD k 0 ∧ [N, T, K, E].getD k 0 ≤ 255) ∧ 1 ≤ T ∧ 1 ≤ K ∧ 1 ≤ R ∧ R ≤ 512 ∧ T + K + 2 * E ≤ N ∧ N + K ≤ 255
set_option maxHeartbeats 4000000 in
theorem good_ok (N T K E R : Int) (H : Heap) : CallsH Try.prog 4 [pmI N T K E R] H fun v H' => v = .bool (dec (GoodP N T K E R)) ∧ Ext H H' := by
  refine CallsH.enter h4 Try.func4 rfl rfl rfl (by decide) fun u => go ?_
  refine RegS.boxA fun H0 x0 z0 b0 => ?_
  refine go ?_
  refine RegS.buildSlice fun H1 o1 x1 w1 => ?_
  have b1 := b0.ext x1
  have r1 : RowF IV 0 H1 (Sl.fresh H0.size 4) [N, T, K, E] := OwnR.rowF (f := IV) (l := [N, T, K, E]) o1
  have x01 := x0.trans x1
  have no : ¬ GoodP N T K E R → (Value.bool false = Value.bool (dec (GoodP N T K E R)) ∧ Ext H H1) := fun h => ⟨by rw [dec_neg h], x01⟩
  refine go ?_
  refine Wp.loop (ι := Nat) (fun i => [(1, .pointer (some ⟨H.size, 0, none⟩)), (13, (Sl.fresh H0.size 4).val), (14, I64 4), (15, I64 i)]) (fun i A => i ≤ 4 ∧ (∀ k, k < i → 0 ≤ [N, T, K, E].getD k 0 ∧ [N, T, K, E].getD k 0 ≤ 255) ∧ H1 = A) (fun i => 4 - i) 0 subs ⟨by omega, fun k h => absurd h (by omega), rfl⟩ ?_
  rintro i _ ⟨hi, hall, rfl⟩
  have hlen : [N, T, K, E].length = 4 := rfl
  refine go ?_
  refine Wp.br (fun h => ?_) (fun h => ?_)
  · have h : (i : Int) < ((4 : Nat) : Int) := h
    refine go ?_
    refine RegS.sp (fun h1 => ?_) (fun h1 => ?_) <;> refine go ?_
    · exact ret1 (no fun k => by have := (k.1 i (by omega)).1; omega)
    refine Wp.br (fun h2 => ?_) (fun h2 => ?_) <;> refine go ?_
    · exact ret1 (no fun k => by have := (k.1 i (by omega)).2; omega)
    refine roundQ_n (i + 1) subs ⟨by omega, fun k hk => ?_, rfl⟩ (by omega)
    by_cases e : k = i
    · subst e; omega
    · exact hall k (by omega)
  have h : ¬ (i : Int) < ((4 : Nat) : Int) := h
  have : i = 4 := by omega
  subst this
  have g0 := hall 0 (by omega)
  have g1 := hall 1 (by omega)
  have g2 := hall 2 (by omega)
  have g3 := hall 3 (by omega)
  simp only [List.getD_cons_zero, List.getD_cons_succ] at g0 g1 g2 g3
  obtain ⟨n, rfl⟩ := Int.eq_ofNat_of_zero_le g0.1
  obtain ⟨t, rfl⟩ := Int.eq_ofNat_of_zero_le g1.1
  obtain ⟨k, rfl⟩ := Int.eq_ofNat_of_zero_le g2.1
  obtain ⟨e, rfl⟩ := Int.eq_ofNat_of_zero_le g3.1
  refine go ?_
  refine RegS.sp (fun c1 => ?_) (fun c1 => ?_) <;> refine go ?_
  case _ =>
    refine RegS.sp (fun c2 => ?_) (fun c2 => ?_) <;> refine go ?_
    · refine RegS.sp (fun c3 => ?_) (fun c3 => ?_) <;> refine go ?_
      · refine RegS.sp (fun c4 => ?_) (fun c4 => ?_) <;> refine go ?_
        · refine RegS.sp (fun c5 => ?_) (fun c5 => ?_) <;> refine go ?_
          · refine ret1 ⟨?_, x01⟩
            refine congrArg _ (dec_congr ⟨fun h6 => ⟨hall, by omega, by omega, by omega, by omega, by omega, by omega⟩, fun h6 => ?_⟩)
            have := h6.2.2.2.2.2.2; omega
          · exact ret1 (no fun h6 => by have := h6.2.2.2.2.2.1; omega)
        · exact ret1 (no fun h6 => by have := h6.2.2.2.2.1; omega)
      · exact ret1 (no fun h6 => by have := h6.2.2.2.1; omega)
    · exact ret1 (no fun h6 => by have := h6.2.2.1; omega)
  · exact ret1 (no fun h6 => by have := h6.2.1; omega)
end Go.Proofs.Ytaikdcnifijcoaa
