/-
  The calculus: rows of many-cell elements that are written in place: copy, clear, append where there is room, append of zeros where there is none.
-/
import Derived.Test.YtaikdcnifijcoaaGreatQ28
import Derived.Test.YtaikdcnifijcoaaGreatQ08
import Derived.Lib.AppendZerosOnto
import Derived.Lib.Overlaps
import Derived.Deep.AppendSrc
import Derived.Laws.Externs
set_option linter.unusedVariables false
set_option linter.unusedSimpArgs false
namespace Go.Vc
theorem OwnR.opn {H : Heap} {base k : Nat} {e : TypeId} {s : Sl} {xs : List Value} (h : OwnR H base e k s xs) (hp : 0 < s.len) :
    ∃ g rest, s.ao = some ⟨g, 0, none⟩ ∧ base ≤ g ∧ Blk H g e (xs ++ rest) ∧ s.len ≤ s.cap ∧ s.cap ≤ maxLen ∧ (xs ++ rest).length = s.cap * k ∧ xs.length = s.len * k := by
  rcases h.2 with h2 | ⟨g, cur, ha, hg, hh, hl, hm, hc, ht⟩
  · have := (s.ok h2).1; omega
  · refine ⟨g, cur.toList.drop (s.len * k), ha, hg, ?_, hl, hm, ?_, h.1⟩
    · have : xs ++ cur.toList.drop (s.len * k) = cur.toList := by rw [← ht]; exact List.take_append_drop _ _
      rw [this]
      exact ⟨hh⟩
    · have : xs ++ cur.toList.drop (s.len * k) = cur.toList := by rw [← ht]; exact List.take_append_drop _ _
      rw [this]; simpa using hc
def Sl.own (g n cap : Nat) (h : n ≤ cap) : Sl := ⟨some ⟨g, 0, none⟩, n, cap, fun h => (by cases h), h⟩
theorem OwnR.shut {H : Heap} {base k g n cap : Nat} {e : TypeId} {xs rest : List Value} (hb : Blk H g e (xs ++ rest)) (hg : base ≤ g) (h : n ≤ cap) (hm : cap ≤ maxLen) (hl : xs.length = n * k) (hc : (xs ++ rest).length = cap * k) : OwnR H base e k (Sl.own g n cap h) xs :=
  ⟨hl, .inr ⟨g, (xs ++ rest).toArray, rfl, hg, hb.at_, h, hm, by simpa [Sl.own] using hc, by
    show ((xs ++ rest).toArray.toList).take (n * k) = xs
    rw [← hl]; simp⟩⟩
/-- A slice's place, cut. -/
def gOff (m l o n : Nat) : Nat := if m = l then o else o + l * n
theorem gOff_ne {m l o n : Nat} (h : m ≠ l) : gOff m l o n = o + l * n := if_neg h
theorem gOff_zero {m o n : Nat} : gOff m 0 o n = o := by unfold gOff; split <;> simp
theorem Rd.cutG {C : Cx} {o : Oper} {L : Env} {H : Heap} [Tbl C.P] {t e sz bt bytes n l h m g off c k : Nat} {z z' : Value} {d : TypeDesc} {x : Operand} {lo hi mx : Option Operand} (ho : o.op = .slice t x lo hi mx) (hx : L.ev x = some (.slice (some ⟨g, off, none⟩) k c)) (hkc : k ≤ c)
    (hlo : (lo = none ∧ l = 0) ∨ ∃ y k, lo = some y ∧ L.ev y = some (.int k (l : Int))) (hhi : (hi = none ∧ mx = none ∧ h = k) ∨ ∃ y k, hi = some y ∧ L.ev y = some (.int k (h : Int))) (hmx : (mx = none ∧ m = c) ∨ ∃ y k, mx = some y ∧ L.ev y = some (.int k (m : Int)))
    (ht : ty C.P t = some ⟨.slice e, sz, bt, z⟩) (he : ty C.P e = some ⟨d, n, bytes, z'⟩) (hh : l ≤ h ∧ h ≤ m ∧ m ≤ c) : Rd C o L H (.slice (some ⟨g, gOff m l off n, none⟩) (h - l) (m - l)) := by
  have r := Rd.sliceN (C := C) (o := o) (L := L) (H := H) (s := ⟨some ⟨g, off, none⟩, k, c, fun h => (by cases h), hkc⟩) ho hx hlo hhi hmx ht he hh
  rw [Sl.cutN_val hh] at r
  have e : (if m = l then some (⟨g, off, none⟩ : Addr) else (some (⟨g, off, none⟩ : Addr)).map (·.add (l * n))) = some ⟨g, gOff m l off n, none⟩ := by
    unfold gOff
    split
    · rfl
    · simp [Addr.add_lit]
  have r : Rd C o L H (.slice (if m = l then some (⟨g, off, none⟩ : Addr) else (some (⟨g, off, none⟩ : Addr)).map (·.add (l * n))) (h - l) (m - l)) := r
  rw [e] at r
  exact r
section
variable {P : Program}
theorem run_copy_at (w : World) (dT sT ty elem : TypeId) (size b o dLen dCap : Nat) (a : Addr) (sLen sCap : Nat) (cs : List Value)
    (hu : P.underlying dT = some (.slice elem)) (hs : (P.info? elem).map (·.size) = some size) (hn : cs.length = Nat.min sLen dLen * size)
    (hsrc : ∀ j v, cs[j]? = some v → w.cell? (a.add j) = some v) (hc : ∀ j, j < cs.length → (w.cell? ⟨b, o + j, none⟩).isSome = true) (hf : ∀ j, j < cs.length → w.frozen? ⟨b, o + j, none⟩ = false) (h1 : ∀ v ∈ cs, v.oneCell' = true) :
    (Builtin.copy_ #[dT, sT] ty #[.slice (some ⟨b, o, none⟩) dLen dCap, .slice (some a) sLen sCap]).run P w = .ok (goInt (Nat.min sLen dLen)) (w.setCells b o cs) := by
  have hl := run_loadCells_list (P := P) w a cs hsrc
  have hst := run_storeCells_cells (P := P) b o cs 0 w (by simpa using hc) (by simpa using hf) h1
  cases hq : P.info? elem with
  | none => simp [hq] at hs
  | some i =>
    have hi : i.size = size := by simpa [hq] using hs
    simp [Builtin.copy_, run_underlying hu, Builtin.lenOf, Builtin.firstCells, sizeOf, typeInfo, hq, hi, ← hn, hl, hst]
end
section
variable {C : Cx} {o : Oper} {L : Env} {H : Heap}
/-- copy of many-cell elements, wherever in a block of one's own. -/
theorem Ef.copyG [Tbl C.P] {t u e e' g off dLen dCap sLen sCap sz bt bytes size : Nat} {z z' : Value} {d : TypeDesc} {x y : Operand} {a : Addr} {vs ys : List Value} {K : Value → Heap → Prop}
    (ho : o.op = .call { callee := .builtin .copy, args := #[x, y], argTypes := #[t, u] }) (hx : L.ev x = some (.slice (some ⟨g, off, none⟩) dLen dCap)) (hy : L.ev y = some (.slice (some a) sLen sCap))
    (ht : ty C.P t = some ⟨.slice e, sz, bt, z⟩) (he : ty C.P e = some ⟨d, size, bytes, z'⟩) (hb : Blk H g e' vs) (hl : off + ys.length ≤ vs.length) (hn : ys.length = Nat.min sLen dLen * size)
    (hr : ∀ j v, ys[j]? = some v → hcell H (a.add j) = some v) (h1 : ∀ v ∈ ys, oneCell v = true)
    (hk : ∀ v, K v (hsets H g off ys)) : Ef C o L H K :=
  Ef.of (by rw [ho]; rfl) fun act w ha hw => by
    have e1 := agr_of ha hx (by rw [ho]; simp [Op.operands, Call.operands])
    have e2 := agr_of ha hy (by rw [ho]; simp [Op.operands, Call.operands])
    subst hw
    obtain ⟨i, hi, hz1, hs1, hb1⟩ := ty.info he
    have hz1 : i.zero = some z' := hz1
    have hs1 : i.size = size := hs1
    have hb1 : i.bytes = bytes := hb1
    have hrun := run_copy_at (P := C.P) w t u o.type e size g off dLen dCap a sLen sCap ys (Tbl.ok.find ht).1 (by rw [hi]; simp [hs1]) hn hr
      (fun j hj => by
        rw [show w.cell? ⟨g, off + j, none⟩ = hcell w.heap ⟨g, off + j, none⟩ from rfl, blk_cell hb.at_]
        have hj' : off + j < vs.length := by omega
        simp [hj']) (fun j hj => blk_free hb.at_) (fun v hv => oneCell_of (h1 v hv))
    refine .inl ⟨goInt (Nat.min sLen dLen), w.setCells g off ys, ?_, setCells_sim g ys off w, by rw [setCells_heap]; exact hk _⟩
    simp [execOp, ho, resolve, invoke, builtin, e1, e2, hrun, Result.andThen, Sem.run_bind, Sem.run]
/-- clear of many-cell elements, wherever in a block of one's own. -/
theorem Ef.clearG [Tbl C.P] {t e e' g off n c sz bt bytes size : Nat} {z z' : Value} {d : TypeDesc} {x : Operand} {vs : List Value} {K : Value → Heap → Prop}
    (ho : o.op = .call { callee := .builtin .clear, args := #[x], argTypes := #[t] }) (hx : L.ev x = some (.slice (some ⟨g, off, none⟩) n c))
    (ht : ty C.P t = some ⟨.slice e, sz, bt, z⟩) (he : ty C.P e = some ⟨d, size, bytes, z'⟩) (hp : 0 < n) (hb : Blk H g e' vs) (hl : off + (Builtin.zeroCells z'.cells n).toList.length ≤ vs.length)
    (h1 : ∀ v ∈ (Builtin.zeroCells z'.cells n).toList, oneCell v = true) (hk : ∀ v, K v (hsets H g off (Builtin.zeroCells z'.cells n).toList)) : Ef C o L H K :=
  Ef.of (by rw [ho]; rfl) fun act w ha hw => by
    have e1 := agr_of ha hx (by rw [ho]; simp [Op.operands, Call.operands])
    subst hw
    obtain ⟨m, rfl⟩ : ∃ m, n = m + 1 := ⟨n - 1, by omega⟩
    have hst := run_storeCells_cells (P := C.P) g off (Builtin.zeroCells z'.cells (m + 1)).toList 0 w (fun i hi => by
        rw [show w.cell? ⟨g, off + 0 + i, none⟩ = hcell w.heap ⟨g, off + 0 + i, none⟩ from rfl, blk_cell hb.at_]
        have hj' : off + i < vs.length := by omega
        simp [hj']) (fun i hi => blk_free hb.at_) (fun v hv => oneCell_of (h1 v hv))
    rw [Nat.add_zero] at hst
    refine .inl ⟨.tuple #[], w.setCells g off (Builtin.zeroCells z'.cells (m + 1)).toList, ?_, setCells_sim g _ off w, by rw [setCells_heap]; exact hk _⟩
    simp [execOp, ho, resolve, invoke, builtin, e1, Builtin.clear_, Sem.run_bind, ty.und ht, ty.zero he, hst, Result.andThen, Sem.run]
/-- append where there is room, in place. -/
theorem Ef.appendG [Tbl C.P] {t e e' g off sLen sCap n nc sz bt bytes size : Nat} {z z' : Value} {d : TypeDesc} {x y : Operand} {a : Addr} {vs ys : List Value} {K : Value → Heap → Prop}
    (ho : o.op = .call { callee := .builtin .append, args := #[x, y], argTypes := #[t, t] }) (hx : L.ev x = some (.slice (some ⟨g, off, none⟩) sLen sCap)) (hy : L.ev y = some (.slice (some a) n nc))
    (ht : ty C.P t = some ⟨.slice e, sz, bt, z⟩) (he : ty C.P e = some ⟨d, size, bytes, z'⟩) (hroom : sLen + n ≤ sCap) (hb : Blk H g e' vs) (hl : off + sLen * size + ys.length ≤ vs.length) (hn : ys.length = n * size)
    (hr : ∀ j v, ys[j]? = some v → hcell H (a.add j) = some v) (h1 : ∀ v ∈ ys, oneCell v = true)
    (hk : K (.slice (some ⟨g, off, none⟩) (sLen + n) sCap) (hsets H g (off + sLen * size) ys)) : Ef C o L H K :=
  Ef.of (by rw [ho]; rfl) fun act w ha hw => by
    have e1 := agr_of ha hx (by rw [ho]; simp [Op.operands, Call.operands])
    have e2 := agr_of ha hy (by rw [ho]; simp [Op.operands, Call.operands])
    subst hw
    obtain ⟨i, hi, hz1, hs1, hb1⟩ := ty.info he
    have hz1 : i.zero = some z' := hz1
    have hs1 : i.size = size := hs1
    have hb1 : i.bytes = bytes := hb1
    have hrun := run_append_room_src (P := C.P) w t t o.type e i (Tbl.ok.find ht).1 hi g off sLen sCap (.slice (some a) n nc) n ys
      (Src.ofSlice w (Tbl.ok.find ht).1 a n nc ys (by rw [hs1]; exact hn) hr (fun v hv => oneCell_of (h1 v hv))) hroom
      (fun j hj => by
        rw [hs1, show w.cell? ⟨g, off + sLen * size + j, none⟩ = hcell w.heap ⟨g, off + sLen * size + j, none⟩ from rfl, blk_cell hb.at_]
        have hj' : off + sLen * size + j < vs.length := by omega
        simp [hj']) (fun j hj => by rw [hs1]; exact blk_free hb.at_)
    rw [hs1] at hrun
    refine .inl ⟨.slice (some ⟨g, off, none⟩) (sLen + n) sCap, w.setCells g (off + sLen * size) ys, ?_, setCells_sim g _ _ w, by rw [setCells_heap]; exact hk⟩
    simp [execOp, ho, resolve, invoke, builtin, e1, e2, hrun, Result.andThen, Sem.run_bind, Sem.run]
/-- append of a number of zeros, where there is no room: a new block. -/
theorem Ef.appendZ [Tbl C.P] {t tn e e' g off sLen sCap k sz bt bytes size szn btn : Nat} {z z' zn : Value} {d : TypeDesc} {x y : Operand} {kq kn : IntKind} {vs olds : List Value} {K : Value → Heap → Prop}
    (ho : o.op = .call { callee := .builtin .append, args := #[x, y], argTypes := #[t, tn] }) (hx : L.ev x = some (.slice (some ⟨g, off, none⟩) sLen sCap)) (hy : L.ev y = some (.int kq (k : Int)))
    (ht : ty C.P t = some ⟨.slice e, sz, bt, z⟩) (htn : ty C.P tn = some ⟨.int kn, szn, btn, zn⟩) (he : ty C.P e = some ⟨d, size, bytes, z'⟩) (hs0 : 0 < size) (hk0 : 0 < k) (hroom : sCap < sLen + k)
    (hol : olds.length = sLen * size) (hr : ∀ j v, olds[j]? = some v → hcell H ((⟨g, off, none⟩ : Addr).add j) = some v)
    (hbig : (sLen + k) * bytes ≤ 140737488355328) (hbig2 : sLen + k ≤ 140737488355328)
    (hk : ∀ (G : Nat) (H' : Heap), sLen + k ≤ G → G ≤ maxLen → Blk H' H.size e (olds ++ ((Builtin.zeroCells z'.cells k).toList ++ (Builtin.zeroCells z'.cells (G - (sLen + k))).toList)) → Ext H H' → H'.size = H.size + 1 → K (.slice (some ⟨H.size, 0, none⟩) (sLen + k) G) H') : Ef C o L H K :=
  Ef.of (by rw [ho]; rfl) fun act w ha hw => by
    have e1 := agr_of ha hx (by rw [ho]; simp [Op.operands, Call.operands])
    have e2 := agr_of ha hy (by rw [ho]; simp [Op.operands, Call.operands])
    subst hw
    obtain ⟨i, hi, hz1, hs1, hb1⟩ := ty.info he
    have hz1 : i.zero = some z' := hz1
    have hs1 : i.size = size := hs1
    have hb1 : i.bytes = bytes := hb1
    have hbk : k * bytes ≤ (sLen + k) * bytes := Nat.mul_le_mul_right _ (by omega)
    have hrun := Lib.run_append_grow_zeros (P := C.P) w t tn o.type e i z' kq kn (Tbl.ok.find ht).1 (Tbl.ok.find htn).1 hi hz1 (some ⟨g, off, none⟩) sLen sCap olds
      (run_firstCells_some (P := C.P) w.drew i.size sLen ⟨g, off, none⟩ sLen sCap olds (by rw [hs1]; exact hol) (fun j v hj => hr j v hj))
      k hk0 (by rw [hs1]; exact hs0) hroom (by omega) (by rw [hb1]; omega) (by rw [hb1]; exact growslice_fits hroom hbig)
    have hG1 := grownCap_ge w (sLen + k) sCap e
    have hG2 := grownCap_le_maxLen w (sLen + k) sCap e (by unfold maxLen; omega)
    refine .inl ⟨_, w.drew.alloc (.cells (olds.toArray ++ Builtin.zeroCells z'.cells k ++ Builtin.zeroCells z'.cells (grownCap w (sLen + k) sCap e - (sLen + k))) e), ?_, ⟨rfl, rfl, rfl⟩, hk (grownCap w (sLen + k) sCap e) _ hG1 hG2 ⟨?_⟩ (Ext.push _ _) (by simp [World.alloc])⟩
    · simp [execOp, ho, resolve, invoke, builtin, e1, e2, hrun, Result.andThen, Sem.run_bind, Sem.run]
    · show (w.heap.push _)[w.heap.size]? = _
      rw [Array.getElem?_push, if_pos rfl]
      congr 2
      apply Array.ext'
      simp [List.append_assoc]
/-- A function of the library without a body that only looks. -/
theorem Ef.look [Tbl C.P] {f : Operand} {xs : List Operand} {ts : Array TypeId} {g : FuncId} {vs : List Value} {v : Value} {K : Value → Heap → Prop} (ho : o.op = .call { callee := .value f, args := xs.toArray, argTypes := ts }) (hf : L.ev f = some (.func (.func g) #[] #[])) (hxs : evs L xs = some vs)
    (hr : ∀ w : World, w.heap = H → (callFunc g vs.toArray).run C.P w = .ok (.value v) w) (hk : K v H) : Ef C o L H K :=
  Ef.of (by rw [ho]; rfl) fun act w ha hw => by
    have e1 := agr_of ha hf (by rw [ho]; simp [Op.operands, Call.operands])
    have e2 : (xs.toArray.map act.eval) = vs.toArray := by
      rw [List.map_toArray, evs_map hxs fun x hx u hu => ha x (by rw [ho]; simp [Op.operands, Call.operands, hx]) u hu]
    subst hw
    refine .inl ⟨v, w, ?_, ⟨rfl, rfl, rfl⟩, hk⟩
    have h3 := hr w rfl
    unfold execOp
    simp only [ho, resolve, e1, Deferred.ofValue, Sem.run_bind, Sem.run_pure, Result.andThen, invoke, e2]
    rw [show (#[] : Array Value) ++ vs.toArray ++ (#[] : Array Value) = vs.toArray by simp]
    exact h3
end
section
variable {C : Cx} {o : Oper} {L : Env} {H : Heap}
theorem Rd.lenG [Tbl C.P] {x : Operand} {t e n c sz bt : Nat} {p : Option Addr} {z : Value} (ho : o.op = .call { callee := .builtin .len, args := #[x], argTypes := #[t] }) (hx : L.ev x = some (.slice p n c)) (ht : ty C.P t = some ⟨.slice e, sz, bt, z⟩) : Rd C o L H (.int .i64 (n : Int)) :=
  Rd.of (by rw [ho]; rfl) fun act w ha ex => by
    have h1 := agr_of ha hx (by rw [ho]; simp [Op.operands, Call.operands])
    simp [execOp, ho, resolve, invoke, builtin, h1, Builtin.len_, Sem.run_bind, ty.und ht, Result.andThen, goInt, Sem.run]
theorem Rd.capG [Tbl C.P] {x : Operand} {t e n c sz bt : Nat} {p : Option Addr} {z : Value} (ho : o.op = .call { callee := .builtin .cap, args := #[x], argTypes := #[t] }) (hx : L.ev x = some (.slice p n c)) (ht : ty C.P t = some ⟨.slice e, sz, bt, z⟩) : Rd C o L H (.int .i64 (c : Int)) :=
  Rd.of (by rw [ho]; rfl) fun act w ha ex => by
    have h1 := agr_of ha hx (by rw [ho]; simp [Op.operands, Call.operands])
    simp [execOp, ho, resolve, invoke, builtin, h1, Builtin.cap_, Sem.run_bind, ty.und ht, Result.andThen, goInt, Sem.run]
end
section
variable {C : Cx} {ops : Array Oper} {l : List Oper} {L : Env} {ds : List Nat} {H : Heap} {Kk : Env → Heap → Prop} {o : Oper} {B : Array Nat} {p : Plan} {pend : List Rec}
theorem RegS.copyG [Tbl C.P] {t u e e' g off dLen dCap sLen sCap sz bt bytes size dst : Nat} {z z' : Value} {d : TypeDesc} {x y : Operand} {a : Addr} {vs : List Value} (ys : List Value) (hb : Blk H g e' vs) (hl : off + ys.length ≤ vs.length) (hn : ys.length = Nat.min sLen dLen * size)
    (hr : ∀ j v, ys[j]? = some v → hcell H (a.add j) = some v) (h1 : ∀ v ∈ ys, oneCell v = true) (k : ∀ v, RegS C ops l ((dst, v) :: L) ds (hsets H g off ys) Kk)
    (ho : o.op = .call { callee := .builtin .copy, args := #[x, y], argTypes := #[t, u] } := by rfl) (hx : L.ev x = some (.slice (some ⟨g, off, none⟩) dLen dCap) := by rfl) (hy : L.ev y = some (.slice (some a) sLen sCap) := by rfl)
    (ht : ty C.P t = some ⟨.slice e, sz, bt, z⟩ := by rfl) (he : ty C.P e = some ⟨d, size, bytes, z'⟩ := by rfl)
    (hds : o.dst = some dst := by rfl) (hg : gd ops o L = some true := by rfl) (hdd : Nat.blt dst C.N = true := by rfl) : RegS C ops (o :: l) L ds H Kk :=
  RegS.ef hg (by rw [hds]; exact hdd) (Ef.copyG ho hx hy ht he hb hl hn hr h1 fun v => by rw [hds]; exact k v)
theorem RegP.copyG [Tbl C.P] {i t u e e' g off dLen dCap sLen sCap sz bt bytes size dst : Nat} {keep : List Nat} {z z' : Value} {d : TypeDesc} {x y : Operand} {a : Addr} {vs : List Value} (ys : List Value) (hb : Blk H g e' vs) (hl : off + ys.length ≤ vs.length) (hn : ys.length = Nat.min sLen dLen * size)
    (hr : ∀ j v, ys[j]? = some v → hcell H (a.add j) = some v) (h1 : ∀ v ∈ ys, oneCell v = true) (hp : Proms C ops (hsets H g off ys) (pfilter keep pend)) (k : ∀ v, RegP C ops B p (pfilter keep pend) ((dst, v) :: L) ds (hsets H g off ys) Kk)
    (hi : ops[i]? = some o := by rfl) (ho : o.op = .call { callee := .builtin .copy, args := #[x, y], argTypes := #[t, u] } := by rfl) (hx : L.ev x = some (.slice (some ⟨g, off, none⟩) dLen dCap) := by rfl) (hy : L.ev y = some (.slice (some a) sLen sCap) := by rfl)
    (ht : ty C.P t = some ⟨.slice e, sz, bt, z⟩ := by rfl) (he : ty C.P e = some ⟨d, size, bytes, z'⟩ := by rfl)
    (hds : o.dst = some dst := by rfl) (hg : gd ops o L = some true := by rfl) (hdd : Nat.blt dst C.N = true := by rfl) : RegP C ops B (.e i keep p .nil) pend L ds H Kk :=
  RegP.ef (Ef.copyG ho hx hy ht he hb hl hn hr h1 fun v => by rw [hds]; exact ⟨.inr hp, k v⟩) hi hg (by rw [hds]; exact hdd)
theorem RegP.appendG [Tbl C.P] {i t e e' g off sLen sCap n nc sz bt bytes size dst : Nat} {keep : List Nat} {z z' : Value} {d : TypeDesc} {x y : Operand} {a : Addr} {vs : List Value} (ys : List Value) (hroom : sLen + n ≤ sCap) (hb : Blk H g e' vs) (hl : off + sLen * size + ys.length ≤ vs.length) (hn : ys.length = n * size)
    (hr : ∀ j v, ys[j]? = some v → hcell H (a.add j) = some v) (h1 : ∀ v ∈ ys, oneCell v = true) (hp : Proms C ops (hsets H g (off + sLen * size) ys) (pfilter keep pend)) (k : RegP C ops B p (pfilter keep pend) ((dst, .slice (some ⟨g, off, none⟩) (sLen + n) sCap) :: L) ds (hsets H g (off + sLen * size) ys) Kk)
    (hi : ops[i]? = some o := by rfl) (ho : o.op = .call { callee := .builtin .append, args := #[x, y], argTypes := #[t, t] } := by rfl) (hx : L.ev x = some (.slice (some ⟨g, off, none⟩) sLen sCap) := by rfl) (hy : L.ev y = some (.slice (some a) n nc) := by rfl)
    (ht : ty C.P t = some ⟨.slice e, sz, bt, z⟩ := by rfl) (he : ty C.P e = some ⟨d, size, bytes, z'⟩ := by rfl)
    (hds : o.dst = some dst := by rfl) (hg : gd ops o L = some true := by rfl) (hdd : Nat.blt dst C.N = true := by rfl) : RegP C ops B (.e i keep p .nil) pend L ds H Kk :=
  RegP.ef (Ef.appendG ho hx hy ht he hroom hb hl hn hr h1 (by rw [hds]; exact ⟨.inr hp, k⟩)) hi hg (by rw [hds]; exact hdd)
theorem RegS.clearG [Tbl C.P] {t e e' g off n c sz bt bytes size : Nat} {z z' : Value} {d : TypeDesc} {x : Operand} {vs : List Value} (hpos : 0 < n) (hb : Blk H g e' vs) (hl : off + (Builtin.zeroCells z'.cells n).toList.length ≤ vs.length)
    (h1 : ∀ v ∈ (Builtin.zeroCells z'.cells n).toList, oneCell v = true) (k : RegS C ops l L ds (hsets H g off (Builtin.zeroCells z'.cells n).toList) Kk)
    (ho : o.op = .call { callee := .builtin .clear, args := #[x], argTypes := #[t] } := by rfl) (hx : L.ev x = some (.slice (some ⟨g, off, none⟩) n c) := by rfl)
    (ht : ty C.P t = some ⟨.slice e, sz, bt, z⟩ := by rfl) (he : ty C.P e = some ⟨d, size, bytes, z'⟩ := by rfl)
    (hds : o.dst = none := by rfl) (hg : gd ops o L = some true := by rfl) : RegS C ops (o :: l) L ds H Kk :=
  RegS.ef hg (by rw [hds]; rfl) (Ef.clearG ho hx ht he hpos hb hl h1 fun v => by rw [hds]; exact k)
theorem RegS.appendZ [Tbl C.P] {t tn e e' g off sLen sCap kk sz bt bytes size szn btn dst : Nat} {z z' zn : Value} {d : TypeDesc} {x y : Operand} {kq kn : IntKind} {olds : List Value} (hs0 : 0 < size) (hk0 : 0 < kk) (hroom : sCap < sLen + kk)
    (hol : olds.length = sLen * size) (hr : ∀ j v, olds[j]? = some v → hcell H ((⟨g, off, none⟩ : Addr).add j) = some v)
    (hbig : (sLen + kk) * bytes ≤ 140737488355328) (hbig2 : sLen + kk ≤ 140737488355328)
    (k : ∀ (G : Nat) (H' : Heap), sLen + kk ≤ G → G ≤ maxLen → Blk H' H.size e (olds ++ ((Builtin.zeroCells z'.cells kk).toList ++ (Builtin.zeroCells z'.cells (G - (sLen + kk))).toList)) → Ext H H' → H'.size = H.size + 1 → RegS C ops l ((dst, .slice (some ⟨H.size, 0, none⟩) (sLen + kk) G) :: L) ds H' Kk)
    (ho : o.op = .call { callee := .builtin .append, args := #[x, y], argTypes := #[t, tn] } := by rfl) (hx : L.ev x = some (.slice (some ⟨g, off, none⟩) sLen sCap) := by rfl) (hy : L.ev y = some (.int kq (kk : Int)) := by rfl)
    (ht : ty C.P t = some ⟨.slice e, sz, bt, z⟩ := by rfl) (htn : ty C.P tn = some ⟨.int kn, szn, btn, zn⟩ := by rfl) (he : ty C.P e = some ⟨d, size, bytes, z'⟩ := by rfl)
    (hds : o.dst = some dst := by rfl) (hg : gd ops o L = some true := by rfl) (hdd : Nat.blt dst C.N = true := by rfl) : RegS C ops (o :: l) L ds H Kk :=
  RegS.ef hg (by rw [hds]; exact hdd) (Ef.appendZ (vs := []) (e' := 0) ho hx hy ht htn he hs0 hk0 hroom hol hr hbig hbig2 fun G H' a b c d e => by rw [hds]; exact k G H' a b c d e)
theorem RegS.look [Tbl C.P] {f : Operand} {xs : List Operand} {ts : Array TypeId} {g dst : Nat} {vs : List Value} (v : Value) (hr : ∀ w : World, w.heap = H → (callFunc g vs.toArray).run C.P w = .ok (.value v) w) (k : RegS C ops l ((dst, v) :: L) ds H Kk)
    (ho : o.op = .call { callee := .value f, args := xs.toArray, argTypes := ts } := by rfl) (hf : L.ev f = some (.func (.func g) #[] #[]) := by rfl) (hxs : evs L xs = some vs := by rfl)
    (hds : o.dst = some dst := by rfl) (hg : gd ops o L = some true := by rfl) (hdd : Nat.blt dst C.N = true := by rfl) : RegS C ops (o :: l) L ds H Kk :=
  RegS.ef hg (by rw [hds]; exact hdd) (Ef.look ho hf hxs hr (by rw [hds]; exact k))
end
theorem Rd.lenS {C : Cx} {o : Oper} {L : Env} {H : Heap} [Tbl C.P] {x : Operand} {t : Nat} {l : List UInt8} {i : TI} (ho : o.op = .call { callee := .builtin .len, args := #[x], argTypes := #[t] }) (hx : L.ev x = some (S l))
    (ht : ty C.P t = some i) (hi : i.desc = .string) : Rd C o L H (.int .i64 (l.length : Int)) :=
  Rd.of (by rw [ho]; rfl) fun act w ha ex => by
    have h1 := agr_of ha hx (by rw [ho]; simp [Op.operands, Call.operands])
    have hz : (⟨l.toArray⟩ : ByteArray).size = l.length := rfl
    generalize hb : (⟨l.toArray⟩ : ByteArray) = b at hz
    rw [S, hb] at h1
    simp [execOp, ho, resolve, invoke, builtin, h1, Builtin.len_, Sem.run_bind, ty.und ht, Result.andThen, hi, goInt, Sem.run, hz]
end Go.Vc
