/-
  Rows of bytes that nobody else writes.
-/
import Derived.Test.YtccgbgjhjpllcaaVcTbl
import Derived.Test.YtccgbgjhjpllcaaVcEff
set_option linter.unusedVariables false
set_option linter.unusedSimpArgs false
namespace Go.Vc
theorem hfrozen_block {H H' : Heap} {a : Addr} (h : H'[a.block]? = H[a.block]?) : hfrozen H' a = hfrozen H a := by
  unfold hfrozen; rw [h]
theorem Sl.cell_blk {s : Sl} {b : Nat} (h : s.blk = some b) (j : Nat) : (s.cell j).block = b := by
  rw [Sl.cell_eq]
  unfold Sl.blk at h
  cases hs : s.ao with
  | none => rw [hs] at h; simp at h
  | some a =>
    rw [hs] at h
    simp only [Option.map_some, Option.some.injEq] at h
    simp only [Option.getD_some]
    unfold Addr.add
    split
    · exact h
    · exact h
theorem Sl.blk_some {s : Sl} (h : 0 < s.len) : ∃ b, s.blk = some b := by
  unfold Sl.blk
  cases hs : s.ao with
  | none => have := (s.ok hs).1; omega
  | some a => exact ⟨_, rfl⟩
/-- A row of bytes in a block from 'base' on, whose cells may be written. -/
structure Mine (H : Heap) (base : Nat) (s : Sl) (l : List UInt8) : Prop where
  bytes : Bytes H s l
  blk : ∀ b, s.blk = some b → base ≤ b ∧ b < H.size
  free : ∀ j, j < l.length → hfrozen H (s.cell j) = false
  cap : s.cap ≤ 9223372036854775807
section
variable {H H' : Heap} {base : Nat} {s : Sl} {l : List UInt8}
theorem Mine.low {base' : Nat} (h : Mine H base s l) (hb : base' ≤ base) : Mine H base' s l := ⟨h.bytes, fun b k => ⟨Nat.le_trans hb (h.blk b k).1, (h.blk b k).2⟩, h.free, h.cap⟩
theorem Mine.chg {S : Nat → Prop} (h : Mine H base s l) (c : Chg S H H') (hs : ∀ b, s.blk = some b → ¬S b) : Mine H' base s l := by
  have hc : ∀ j, j < l.length → H'[(s.cell j).block]? = H[(s.cell j).block]? := fun j hj => by
    obtain ⟨b, hb⟩ := Sl.blk_some (s := s) (by rw [h.bytes.len]; omega)
    rw [Sl.cell_blk hb]
    exact c.get b (h.blk b hb).2 (hs b hb)
  exact ⟨⟨h.bytes.len, fun j hj => (hcell_block (hc j hj)).trans (h.bytes.cell j hj)⟩, fun b k => ⟨(h.blk b k).1, Nat.lt_of_lt_of_le (h.blk b k).2 c.size⟩, fun j hj => (hfrozen_block (hc j hj)).trans (h.free j hj), h.cap⟩
theorem Mine.ext (h : Mine H base s l) (e : Ext H H') : Mine H' base s l := h.chg (e.chg fun _ => False) fun _ _ k => k
theorem Mine.wr (h : Mine H base s l) {j : Nat} (hj : j < l.length) : Wr H (s.cell j) := ⟨⟨_, h.bytes.cell j hj⟩, h.free j hj⟩
theorem OwnR.mine {e : TypeId} (h : OwnF B8 H base e s l) : Mine H base s l :=
  ⟨h.rowF, fun b hb => h.blk_ge hb, fun j hj => h.frozen (by simpa using hj), by
    rcases h.2 with h2 | ⟨g, cur, ha, hg, hh, hl, hm, _⟩
    · have := (s.ok h2).2; omega
    · simpa [maxLen] using hm⟩
theorem Sl.cell_inj {s : Sl} {i j : Nat} (h : i ≠ j) : (s.cell i).block ≠ (s.cell j).block ∨ (s.cell i).off ≠ (s.cell j).off := by
  refine .inr ?_
  rw [Sl.cell_eq, Sl.cell_eq]
  unfold Addr.add
  split <;> split <;> simp <;> omega
theorem hset_frozen (H : Heap) (a c : Addr) (v : Value) : hfrozen (hset H a v) c = hfrozen H c := by
  by_cases hb : c.block = a.block
  · unfold hfrozen
    rw [hb]
    unfold hset
    rw [Array.getElem?_modify, if_pos rfl]
    cases H[a.block]? with
    | none => rfl
    | some o => cases o <;> rfl
  · exact hfrozen_block (hset_other hb)
theorem Mine.set (h : Mine H base s l) {j : Nat} (hj : j < l.length) (v : UInt8) : Mine (hset H (s.cell j) (B8 v)) base s (l.set j v) ∧ Chg (fun b => s.blk = some b) H (hset H (s.cell j) (B8 v)) := by
  obtain ⟨b, hb⟩ := Sl.blk_some (s := s) (by rw [h.bytes.len]; omega)
  refine ⟨⟨⟨by rw [List.length_set]; exact h.bytes.len, fun i hi => ?_⟩, fun b k => by rw [hset_size]; exact h.blk b k, fun i hi => by rw [hset_frozen]; exact h.free i (by simpa using hi), h.cap⟩, ?_⟩
  · rw [List.length_set] at hi
    by_cases e : i = j
    · subst e
      rw [hcell_hset_same (h.bytes.cell i hi)]
      simp [List.getD_eq_getElem?_getD, hi]
    · rw [hcell_hset_ne (h.bytes.cell i hi) (Sl.cell_inj e)]
      have e' : ¬ j = i := fun k => e k.symm
      simp [List.getD_eq_getElem?_getD, List.getElem?_set, e']
  · exact (hset_chg H (s.cell j) (B8 v)).mono fun b' _ hb' => by rw [Sl.cell_blk hb] at hb'; subst hb'; exact hb
theorem Mine.cut {a h m : Nat} (hm : Mine H base s l) (hh : a ≤ h ∧ h ≤ m ∧ m ≤ s.cap) (hl : h ≤ l.length) : Mine H base (s.cut a h m) ((l.take h).drop a) := by
  refine ⟨hm.bytes.cut hh hl, fun b hb => hm.blk b (Sl.cut_blk hb), fun j hj => ?_, ?_⟩
  · simp at hj
    rw [Sl.cut_cell hh (by omega)]
    exact hm.free _ (by omega)
  · rw [Sl.cut_cap hh]; have := hm.cap; omega
end
/-- A fresh row comes back; all else is as it was. -/
def New (H : Heap) (l : List UInt8) (v : Value) (H' : Heap) : Prop := ∃ s, v = s.val ∧ Mine H' H.size s l ∧ Ext H H'
theorem get_int {L : Env} {t : Nat} {k : IntKind} {x y : Int} (h : L.get t = some (.int k x)) (e : x = y) : L.get t = some (.int k y) := e ▸ h
theorem Mine.above {H H' : Heap} {base B : Nat} {s : Sl} {l : List UInt8} (h : Mine H base s l) (c : Above B H H') (hb : B ≤ base) : Mine H' base s l :=
  h.chg (S := fun b => b < B) ⟨c.size, fun b hb hs => c.get b (by omega) hb⟩ fun b hb hs => by have := (h.blk b hb).1; omega
theorem Box.above {H H' : Heap} {B b : Nat} {e : TypeId} {v : Value} (h : Box H b e v) (c : Above B H H') (hb : B ≤ b) : Box H' b e v := ⟨(c.get b hb h.lt).trans h.at_⟩
theorem hcell_put {H : Heap} {l : Nat} {r r' : Loop} {a : Addr} {v : Value} (hl : H[l]? = some (.loop r)) (h : hcell H a = some v) : hcell (H.setIfInBounds l (.loop r')) a = some v := by
  have hne : a.block ≠ l := by
    intro e
    unfold hcell at h
    rw [e, hl] at h
    cases h
  exact (hcell_block (H := H) (by rw [Array.getElem?_setIfInBounds_ne (fun e => hne e.symm)])).trans h
theorem RowF.put {β : Type} {f : β → Value} {d : β} {H : Heap} {s : Sl} {l : List β} {y : Nat} {r r' : Loop} (h : RowF f d H s l) (hl : H[y]? = some (.loop r)) : RowF f d (H.setIfInBounds y (.loop r')) s l :=
  ⟨h.len, fun j hj => hcell_put hl (h.cell j hj)⟩
/-- A growth, or a turn of a block that holds no cells. -/
inductive Keep (B : Nat) (A : Heap) : Heap → Prop
  | ext {A' : Heap} : Ext A A' → Keep B A A'
  | put {l : Nat} {o o' : Obj} : B ≤ l → A[l]? = some o → (∀ c e z, o ≠ .cells c e z) → Keep B A (A.setIfInBounds l o')
section
variable {B : Nat} {A A' : Heap}
theorem Keep.size (k : Keep B A A') : A.size ≤ A'.size := by
  cases k with
  | ext e => exact e.size
  | put => simp
theorem Keep.cells (k : Keep B A A') {b : Nat} {c : Array Value} {e : TypeId} {z : Nat × Nat} (h : A[b]? = some (.cells c e z)) : A'[b]? = some (.cells c e z) := by
  cases k with
  | ext x => exact x.blk h
  | put hl ho hn =>
    rename_i l o o'
    have : b ≠ l := by
      rintro rfl
      rw [h] at ho
      simp only [Option.some.injEq] at ho
      exact hn _ _ _ ho.symm
    rw [Array.getElem?_setIfInBounds_ne (fun e => this e.symm)]; exact h
theorem Keep.cell (k : Keep B A A') {a : Addr} {v : Value} (h : hcell A a = some v) : hcell A' a = some v := by
  have h' := h
  unfold hcell at h'
  split at h'
  · rename_i c e z hb
    exact (hcell_block (H := A) ((k.cells hb).trans hb.symm)).trans h
  · cases h'
theorem Keep.above (k : Keep B A A') {H0 : Heap} (e : Ext H0 A) (h : H0.size ≤ B) : Ext H0 A' := by
  cases k with
  | ext x => exact e.trans x
  | put hl ho hn => exact put_ext e (by omega)
theorem RowF.keep {β : Type} {f : β → Value} {d : β} {s : Sl} {l : List β} (h : RowF f d A s l) (k : Keep B A A') : RowF f d A' s l := ⟨h.len, fun j hj => k.cell (h.cell j hj)⟩
theorem Box.keep {b : Nat} {e : TypeId} {v : Value} (h : Box A b e v) (k : Keep B A A') : Box A' b e v := ⟨k.cells h.at_⟩
theorem Mine.keep {base : Nat} {s : Sl} {l : List UInt8} (h : Mine A base s l) (k : Keep B A A') : Mine A' base s l := by
  refine ⟨h.bytes.keep k, fun b hb => ⟨(h.blk b hb).1, Nat.lt_of_lt_of_le (h.blk b hb).2 k.size⟩, fun j hj => ?_, h.cap⟩
  have h1 := h.bytes.cell j hj
  unfold hcell at h1
  split at h1
  · rename_i c e z hb
    exact (hfrozen_block (H := A) ((k.cells hb).trans hb.symm)).trans (h.free j hj)
  · cases h1
end
/-- A range whose rounds' arguments lead to memory. -/
theorem Wp.rangeB {P : Program} {u : World} {N : Nat} {X : List Nat} {pl : List (Nat × Plan)} {f : Operand} {ps : List Nat} {assign body : Code} {Q : QPost} {L : Env} {ds : List Nat} {H : Heap} {g : FuncId} {cap : List Value} {n : Nat} {arg : Nat → Heap → List Value → Prop} {pre : Heap → Prop}
    (it : Iter P g cap n arg pre) (aenv : Nat → List Value → Env) (I : Nat → Heap → Prop) (Ix : Exit → Heap → Prop)
    (hpre : ∀ k H, I k H → pre H) (hI : ∀ k A A', I k A → Keep H.size A A' → I k A') (hIx : ∀ e A A', Ix e A → Keep H.size A A' → Ix e A')
    (hR : ∀ k A A' vs, arg k A vs → Keep H.size A A' → arg k A' vs) (hlen : ∀ k A vs, arg k A vs → vs.length = ps.length) (h0 : I 0 H)
    (hassign : ∀ u l k A vs, k < n → I k A → arg k A vs → Wp ⟨P, u, N, some l, X, pl⟩ assign (fun e L' ds' H1 => e = .normal ∧ ds' = [] ∧ H1 = A ∧ Sub (aenv k vs) L') (zipEnv ps vs L) [] A)
    (hbody : ∀ u l k A vs, k < n → I k A → arg k A vs → Wp ⟨P, u, N, some l, X, pl⟩ body (bodyQ H.size (I (k + 1)) Ix A) (aenv k vs) [] A)
    (hdone : ∀ A D, H.size ≤ D → I n A → A[D]? = some (.deferred (some [])) → Q .normal L (D :: ds) A)
    (hstop : ∀ e A D, H.size ≤ D → Ix e A → A[D]? = some (.deferred (some [])) → Q e L (D :: ds) A)
    (hf : L.ev f = some (.func (.func g) #[] cap.toArray) := by rfl) (hps : allLt N ps = true := by rfl) : Wp ⟨P, u, N, none, X, pl⟩ (.rangeFunc f ps.toArray assign body) Q L ds H :=
  Wp.range (C := ⟨P, u, N, none, X, pl⟩) (arg := arg) (n := n) (pre := pre) aenv I Ix rfl hf hps it hpre (fun k A A' h e => hI k A A' h (.ext e)) (fun k A A' h e => hIx k A A' h (.ext e))
    (fun k A l r r' hl ho h => hI k _ _ h (.put hl ho (by intros; simp))) (fun k A l r r' hl ho h => hIx k _ _ h (.put hl ho (by intros; simp))) (fun k vs A l r r' hl ho h => hR k _ _ vs h (.put hl ho (by intros; simp))) hlen h0
    (fun u l k A vs _ hk hi h => hassign u l k A vs hk hi h) (fun u l k A vs _ hk hi h => hbody u l k A vs hk hi h) hdone hstop
theorem Keep.shut {B D : Nat} {A : Heap} (hD : B ≤ D) (hd : A[D]? = some (.deferred (some []))) : Keep B A (A.setIfInBounds D (.deferred none)) := .put hD hd (by intros; simp)
/-- What a cell holds at the return. -/
theorem run_loadBox {P : Program} [Tbl P] {w : World} {t : Nat} {a : Addr} {v : Value} {i : TI} (ht : ty P t = some i) (hi : isAggD i.desc = false) (hc : hcell w.heap a = some v) : (loadVar t a).run P w = .ok v w := by
  have h2 : w.cell? a = some v := hc
  simp [loadVar, Sem.run_bind, ty.agg ht, Result.andThen, hi, Go.load, Sem.run, h2]
theorem Res.cell2 {P : Program} [Tbl P] {fn : Func} {N : Nat} {L : Env} {H : Heap} {t₁ t₂ e₁ e₂ : Nat} {a₁ a₂ : Addr} {v₁ v₂ : Value} {i₁ i₂ : TI} (h : fn.results = #[.cell t₁ e₁, .cell t₂ e₂]) (h1 : L.get t₁ = some (.pointer (some a₁))) (h2 : L.get t₂ = some (.pointer (some a₂))) (c1 : hcell H a₁ = some v₁) (c2 : hcell H a₂ = some v₂)
    (y1 : ty P e₁ = some i₁) (y2 : ty P e₂ = some i₂) (g1 : isAggD i₁.desc = false) (g2 : isAggD i₂.desc = false) : Res P fn N L H (.tuple #[v₁, v₂]) := fun a ds w hw k => by
  subst hw
  have e1 := k.get' h1
  have e2 := k.get' h2
  have l1 := run_loadBox (P := P) y1 g1 c1
  have l2 := run_loadBox (P := P) y2 g2 c2
  simp [results, h, e1, e2, asAddr, Sem.run_bind, Sem.run, l1, l2, Result.andThen]
section
variable {C : Cx} {L : Env} {H : Heap} {fn : Func} {R : Value → Heap → Prop}
theorem retc2 [Tbl C.P] {t₁ t₂ e₁ e₂ : Nat} {a₁ a₂ : Addr} {v₁ v₂ : Value} {i₁ i₂ : TI} (c1 : hcell H a₁ = some v₁) (c2 : hcell H a₂ = some v₂) (hR : R (.tuple #[v₁, v₂]) H) (h : fn.results = #[.cell t₁ e₁, .cell t₂ e₂] := by rfl) (h1 : L.get t₁ = some (.pointer (some a₁)) := by rfl) (h2 : L.get t₂ = some (.pointer (some a₂)) := by rfl)
    (y1 : ty C.P e₁ = some i₁ := by rfl) (y2 : ty C.P e₂ = some i₂ := by rfl) (g1 : isAggD i₁.desc = false := by rfl) (g2 : isAggD i₂.desc = false := by rfl) : retQ C fn R .ret L [] H := ret_plain (Res.cell2 h h1 h2 c1 c2 y1 y2 g1 g2) hR
theorem retc2d [Tbl C.P] {D : Nat} {t₁ t₂ e₁ e₂ : Nat} {a₁ a₂ : Addr} {v₁ v₂ : Value} {i₁ i₂ : TI} (hd : H[D]? = some (.deferred (some []))) (c1 : hcell (H.setIfInBounds D (.deferred none)) a₁ = some v₁) (c2 : hcell (H.setIfInBounds D (.deferred none)) a₂ = some v₂) (hR : R (.tuple #[v₁, v₂]) (H.setIfInBounds D (.deferred none))) (h : fn.results = #[.cell t₁ e₁, .cell t₂ e₂] := by rfl) (h1 : L.get t₁ = some (.pointer (some a₁)) := by rfl) (h2 : L.get t₂ = some (.pointer (some a₂)) := by rfl)
    (y1 : ty C.P e₁ = some i₁ := by rfl) (y2 : ty C.P e₂ = some i₂ := by rfl) (g1 : isAggD i₁.desc = false := by rfl) (g2 : isAggD i₂.desc = false := by rfl) : retQ C fn R .ret L [D] H := retD ⟨hd, trivial⟩ (Res.cell2 h h1 h2 c1 c2 y1 y2 g1 g2) hR
end
end Go.Vc
