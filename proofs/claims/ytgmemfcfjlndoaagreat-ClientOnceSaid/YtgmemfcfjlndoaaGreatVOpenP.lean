/-
  Documents of shares, plain: which polynomials are found, who is wrong, which document it is.
-/
import Derived.Test.YtgmemfcfjlndoaaGreatVBw2
import Derived.Test.YtgmemfcfjlndoaaGreatVRs
set_option linter.unusedVariables false
set_option linter.unusedSimpArgs false
namespace Go.Proofs.YtgmemfcfjlndoaaGreat
open Go Go.Vc Go.Gf

/-! ### Lists -/
theorem ext_getD {β : Type} (d : β) {l m : List β} (hl : l.length = m.length) (h : ∀ k, k < l.length → l.getD k d = m.getD k d) : l = m := by
  refine List.ext_getElem hl fun i h1 h2 => ?_
  have := h i h1
  simpa [List.getD_eq_getElem?_getD, h1, h2] using this
theorem mem_getD {β : Type} {d x : β} {l : List β} : x ∈ l ↔ ∃ i, i < l.length ∧ l.getD i d = x := by
  rw [List.mem_iff_getElem]
  constructor
  · rintro ⟨i, h, e⟩; exact ⟨i, h, by simp [List.getD_eq_getElem?_getD, h, e]⟩
  · rintro ⟨i, h, e⟩; exact ⟨i, h, by simpa [List.getD_eq_getElem?_getD, h] using e⟩
theorem rising_eq : ∀ {l m : List Nat}, l.Pairwise (· < ·) → m.Pairwise (· < ·) → (∀ x, x ∈ l ↔ x ∈ m) → l = m
  | [], [], _, _, _ => rfl
  | [], b :: m, _, _, h => absurd ((h b).2 List.mem_cons_self) (by simp)
  | a :: l, [], _, _, h => absurd ((h a).1 List.mem_cons_self) (by simp)
  | a :: l, b :: m, hl, hm, h => by
    rw [List.pairwise_cons] at hl hm
    have e : a = b := by
      rcases List.mem_cons.1 ((h a).1 List.mem_cons_self) with e | e
      · exact e
      · rcases List.mem_cons.1 ((h b).2 List.mem_cons_self) with e' | e'
        · exact e'.symm
        · have := hl.1 b e'; have := hm.1 a e; omega
    subst e
    rw [rising_eq hl.2 hm.2 fun x => ?_]
    constructor
    · intro hx
      have := hl.1 x hx
      rcases List.mem_cons.1 ((h x).1 (List.mem_cons_of_mem _ hx)) with e | e
      · omega
      · exact e
    · intro hx
      have := hm.1 x hx
      rcases List.mem_cons.1 ((h x).2 (List.mem_cons_of_mem _ hx)) with e | e
      · omega
      · exact e
/-- Neighbours that are alike, once. -/
def once : List Nat → List Nat
  | [] => []
  | [a] => [a]
  | a :: b :: r => if a = b then once (b :: r) else a :: once (b :: r)
theorem once_mem : ∀ (l : List Nat) (x : Nat), x ∈ once l ↔ x ∈ l
  | [], x => by simp [once]
  | [a], x => by simp [once]
  | a :: b :: r, x => by
    rw [once]
    split
    · rename_i h; subst h; rw [once_mem (a :: r)]; simp
    · rw [List.mem_cons, once_mem (b :: r)]; simp
theorem once_rising : ∀ {l : List Nat}, l.Pairwise (· ≤ ·) → (once l).Pairwise (· < ·)
  | [], _ => by simp [once]
  | [a], _ => by simp [once]
  | a :: b :: r, h => by
    rw [List.pairwise_cons] at h
    rw [once]
    split
    · exact once_rising h.2
    · rename_i hne
      rw [List.pairwise_cons]
      refine ⟨fun x hx => ?_, once_rising h.2⟩
      rw [once_mem] at hx
      have h1 := h.1 b List.mem_cons_self
      rcases List.mem_cons.1 hx with e | e
      · omega
      · have := (List.pairwise_cons.1 h.2).1 x e; omega

/-! ### Points -/
def ptsN (hs : List Nat) : List UInt8 := hs.map fun h => UInt8.ofNat (h + 1)
theorem ptsN_length (hs : List Nat) : (ptsN hs).length = hs.length := by simp [ptsN]
theorem ptsN_getD {hs : List Nat} {i : Nat} (hi : i < hs.length) : (ptsN hs).getD i 0 = UInt8.ofNat (hs.getD i 0 + 1) := by simp [ptsN, List.getD_eq_getElem?_getD, hi]
theorem ofNat_inj {a b : Nat} (ha : a < 256) (hb : b < 256) (h : UInt8.ofNat a = UInt8.ofNat b) : a = b := by
  have := congrArg UInt8.toNat h
  simp only [UInt8.toNat_ofNat'] at this
  rwa [Nat.mod_eq_of_lt ha, Nat.mod_eq_of_lt hb] at this
def colN (rows : List (List UInt8)) (c : Nat) : List UInt8 := rows.map fun s => s.getD c 0
theorem colN_length (rows : List (List UInt8)) (c : Nat) : (colN rows c).length = rows.length := by simp [colN]
theorem colN_getD {rows : List (List UInt8)} {c i : Nat} (hi : i < rows.length) : (colN rows c).getD i 0 = (rows.getD i []).getD c 0 := by simp [colN, List.getD_eq_getElem?_getD, hi]
/-- Holders, each once. -/
structure Few (N : Nat) (hs : List Nat) : Prop where
  lt : ∀ i, i < hs.length → hs.getD i 0 < N
  ne : ∀ i, i < hs.length → ∀ j, j < i → hs.getD j 0 ≠ hs.getD i 0
theorem Few.unlike {N : Nat} {hs : List Nat} (h : Few N hs) (hN : N ≤ 255) : unlike (ptsN hs) := by
  intro i hi j hj e
  rw [ptsN_length] at hi
  rw [ptsN_getD hi, ptsN_getD (by omega)] at e
  have h1 := h.lt i hi
  have h2 := h.lt j (by omega)
  have := ofNat_inj (by omega) (by omega) e
  exact h.ne i hi j hj (by omega)
theorem few_iff {N : Nat} {hs : List Nat} : Few N hs ↔ (∀ h ∈ hs, h < N) ∧ hs.Nodup := by
  constructor
  · rintro ⟨h1, h2⟩
    refine ⟨fun h hh => ?_, ?_⟩
    · obtain ⟨i, hi, rfl⟩ := (mem_getD (d := 0)).1 hh; exact h1 i hi
    · rw [List.Nodup, List.pairwise_iff_getElem]
      intro i j hi hj hij e
      exact h2 j hj i hij (by simpa [List.getD_eq_getElem?_getD, hi, hj] using e)
  · rintro ⟨h1, h2⟩
    refine ⟨fun i hi => h1 _ (mem_getD.2 ⟨i, hi, rfl⟩), fun i hi j hj e => ?_⟩
    rw [List.Nodup, List.pairwise_iff_getElem] at h2
    have hj' : j < hs.length := by omega
    exact h2 j i hj' hi hj (by simpa [List.getD_eq_getElem?_getD, hi, hj'] using e)

/-! ### What is found -/
structure Found (d e cols : Nat) (hs : List Nat) (rows qs : List (List UInt8)) : Prop where
  len : qs.length = cols
  good : ∀ c, c < cols → bwGood (ptsN hs) (colN rows c) (d : Nat) (e : Nat) (qs.getD c [])
theorem Found.one {d e cols : Nat} {hs : List Nat} {rows qs qs' : List (List UInt8)} (h : Found d e cols hs rows qs) (h' : Found d e cols hs rows qs') : qs = qs' :=
  ext_getD [] (h.len.trans h'.len.symm) fun k hk => bwGood_one (h.good k (h.len ▸ hk)) (h'.good k (h.len ▸ hk))
def badAt (q : List UInt8) (c : Nat) (p : Nat × List UInt8) : Bool := decide (hor (UInt8.ofNat (p.1 + 1)) q ≠ p.2.getD c 0)
def Off (hs : List Nat) (rows qs : List (List UInt8)) (h : Nat) : Prop := ∃ c, c < qs.length ∧ ∃ p ∈ hs.zip rows, p.1 = h ∧ badAt (qs.getD c []) c p = true

noncomputable def offs (N : Nat) (hs : List Nat) (rows qs : List (List UInt8)) : List Nat := (List.range N).filter fun h => @decide (Off hs rows qs h) (Classical.propDecidable _)
theorem offs_mem {N : Nat} {hs : List Nat} {rows qs : List (List UInt8)} {h : Nat} : h ∈ offs N hs rows qs ↔ h < N ∧ Off hs rows qs h := by
  unfold offs; rw [List.mem_filter, List.mem_range]; exact and_congr_right fun _ => @decide_eq_true_iff _ (Classical.propDecidable _)
theorem range_rising (n : Nat) : (List.range n).Pairwise (· < ·) := List.pairwise_lt_range
theorem offs_rising (N : Nat) (hs : List Nat) (rows qs : List (List UInt8)) : (offs N hs rows qs).Pairwise (· < ·) := (range_rising N).filter _
theorem zip_getD {hs : List Nat} {rows : List (List UInt8)} (hl : hs.length = rows.length) {p : Nat × List UInt8} : p ∈ hs.zip rows ↔ ∃ i, i < hs.length ∧ p = (hs.getD i 0, rows.getD i []) := by
  rw [List.mem_iff_getElem]
  constructor
  · rintro ⟨i, h, e⟩
    have h1 : i < hs.length := by simp at h; omega
    refine ⟨i, h1, ?_⟩
    rw [← e, List.getElem_zip]
    simp [List.getD_eq_getElem?_getD, h1, hl ▸ h1]
  · rintro ⟨i, h, e⟩
    refine ⟨i, by simp; omega, ?_⟩
    rw [e, List.getElem_zip]
    simp [List.getD_eq_getElem?_getD, h, hl ▸ h]
theorem off_iff {hs : List Nat} {rows qs : List (List UInt8)} (hl : hs.length = rows.length) {h : Nat} : Off hs rows qs h ↔ ∃ c, c < qs.length ∧ ∃ i ∈ wrongL (qs.getD c []) (ptsN hs) (colN rows c) hs.length, hs.getD i 0 = h := by
  unfold Off
  constructor
  · rintro ⟨c, hc, p, hp, rfl, hb⟩
    obtain ⟨i, hi, rfl⟩ := (zip_getD hl).1 hp
    refine ⟨c, hc, i, wrongL_mem hi ?_, rfl⟩
    rw [ptsN_getD hi, colN_getD (hl ▸ hi)]
    simpa [badAt] using hb
  · rintro ⟨c, hc, i, hi, rfl⟩
    obtain ⟨h1, h2⟩ := wrongL_lt hi
    refine ⟨c, hc, _, (zip_getD hl).2 ⟨i, h1, rfl⟩, rfl, ?_⟩
    rw [ptsN_getD h1, colN_getD (hl ▸ h1)] at h2
    simpa [badAt] using h2
theorem wrongL_count {hs : List Nat} {rows : List (List UInt8)} {q : List UInt8} {c : Nat} (hl : hs.length = rows.length) : (wrongL q (ptsN hs) (colN rows c) hs.length).length = (hs.zip rows).countP (badAt q c) := by
  have key : ∀ k, k ≤ hs.length → (wrongL q (ptsN hs) (colN rows c) k).length = ((hs.zip rows).take k).countP (badAt q c) := by
    intro k
    induction k with
    | zero => intro _; simp [wrongL]
    | succ k ih =>
      intro hk
      have e : (hs.zip rows)[k]? = some (hs.getD k 0, rows.getD k []) := by
        rw [List.getElem?_eq_getElem (by simp; omega), List.getElem_zip]
        simp [List.getD_eq_getElem?_getD, show k < hs.length from hk, show k < rows.length from by omega]
      rw [List.take_add_one, e, List.countP_append, ← ih (by omega), wrongL_succ, ptsN_getD hk, colN_getD (by omega)]
      have hb : badAt q c (hs.getD k 0, rows.getD k []) = decide (hor (UInt8.ofNat (hs.getD k 0 + 1)) q ≠ (rows.getD k []).getD c 0) := rfl
      simp only [Option.toList_some, List.countP_cons, List.countP_nil, hb]
      split <;> simp_all
  rw [key _ (Nat.le_refl _), List.take_of_length_le (by simp; omega)]
theorem good_iff {d e : Nat} {hs : List Nat} {rows : List (List UInt8)} {q : List UInt8} {c : Nat} (hl : hs.length = rows.length) (hn : hs.length ≤ 255) (hu : unlike (ptsN hs)) (hd : d ≤ 255) (he : e ≤ 255) :
    bwGood (ptsN hs) (colN rows c) (d : Nat) (e : Nat) q ↔ tl q = q ∧ deg1 q ≤ d + 1 ∧ (hs.zip rows).countP (badAt q c) ≤ e ∧ (hs.zip rows).countP (badAt q c) + d + 1 + e ≤ hs.length := by
  have hw := wrongL_count (q := q) (c := c) hl
  unfold bwGood
  rw [ptsN_length, colN_length, hw]
  constructor
  · rintro ⟨-, -, -, -, -, -, -, h1, h2, h3, h4⟩
    exact ⟨h1, by omega, by omega, by omega⟩
  · rintro ⟨h1, h2, h3, h4⟩
    exact ⟨hl, hn, hu, by omega, by omega, by omega, by omega, h1, by omega, by omega, by omega⟩

/-! ### In another order -/
theorem found_perm {d e cols N : Nat} {hs hs' : List Nat} {rows rows' qs : List (List UInt8)} (hl : hs.length = rows.length) (hl' : hs'.length = rows'.length) (hp : (hs.zip rows).Perm (hs'.zip rows'))
    (hd : d ≤ 255) (he : e ≤ 255) (hN : N ≤ 255) (hf : Few N hs) (hf' : Few N hs') (hn : hs.length ≤ 255) (h : Found d e cols hs rows qs) : Found d e cols hs' rows' qs := by
  have hlen := hp.length_eq
  simp only [List.length_zip] at hlen
  refine ⟨h.len, fun c hc => ?_⟩
  have := (good_iff hl hn (hf.unlike hN) hd he).1 (h.good c hc)
  refine (good_iff hl' (by omega) (hf'.unlike hN) hd he).2 ?_
  rw [← hp.countP_eq]
  exact ⟨this.1, this.2.1, this.2.2.1, by omega⟩
theorem offs_perm {N : Nat} {hs hs' : List Nat} {rows rows' qs : List (List UInt8)} (hp : (hs.zip rows).Perm (hs'.zip rows')) : offs N hs rows qs = offs N hs' rows' qs := by
  refine rising_eq (offs_rising _ _ _ _) (offs_rising _ _ _ _) fun x => ?_
  rw [offs_mem, offs_mem]
  refine and_congr_right fun _ => ?_
  unfold Off
  constructor
  · rintro ⟨c, hc, p, h1, h2⟩; exact ⟨c, hc, p, hp.mem_iff.1 h1, h2⟩
  · rintro ⟨c, hc, p, h1, h2⟩; exact ⟨c, hc, p, hp.mem_iff.2 h1, h2⟩
theorem few_perm {N : Nat} {hs hs' : List Nat} (hp : hs.Perm hs') (h : Few N hs) : Few N hs' := by
  rw [few_iff] at h ⊢
  exact ⟨fun x hx => h.1 x (hp.mem_iff.2 hx), hp.nodup_iff.1 h.2⟩
theorem turn_perm {β : Type} (l : List β) (k : Nat) : l.Perm (l.drop k ++ l.take k) := by
  have := List.perm_append_comm (l₁ := l.take k) (l₂ := l.drop k)
  rwa [List.take_append_drop] at this
theorem drop_zip' {α β : Type} : ∀ (k : Nat) (l : List α) (m : List β), (l.zip m).drop k = (l.drop k).zip (m.drop k)
  | 0, l, m => rfl
  | k + 1, [], m => by simp
  | k + 1, a :: l, [] => by simp
  | k + 1, a :: l, b :: m => by rw [List.zip_cons_cons, List.drop_succ_cons, List.drop_succ_cons, List.drop_succ_cons, drop_zip' k l m]
theorem take_zip' {α β : Type} : ∀ (k : Nat) (l : List α) (m : List β), (l.zip m).take k = (l.take k).zip (m.take k)
  | 0, l, m => by simp
  | k + 1, [], m => by simp
  | k + 1, a :: l, [] => by simp
  | k + 1, a :: l, b :: m => by rw [List.zip_cons_cons, List.take_succ_cons, List.take_succ_cons, List.take_succ_cons, List.zip_cons_cons, take_zip' k l m]
theorem zip_turn {hs : List Nat} {rows : List (List UInt8)} (hl : hs.length = rows.length) (k : Nat) : (hs.drop k ++ hs.take k).zip (rows.drop k ++ rows.take k) = (hs.zip rows).drop k ++ (hs.zip rows).take k := by
  rw [List.zip_append (by simp; omega), drop_zip', take_zip']

/-! ### The document -/
def secP (N K : Nat) : List UInt8 := ptsN ((List.range K).map fun i => N + i)
theorem secP_length (N K : Nat) : (secP N K).length = K := by simp [secP, ptsN]
theorem secP_getD {N K i : Nat} (hi : i < K) : (secP N K).getD i 0 = UInt8.ofNat (N + i + 1) := by simp [secP, ptsN, List.getD_eq_getElem?_getD, hi]
theorem secP_unlike {N K : Nat} (h : N + K ≤ 255) : unlike (secP N K) := by
  intro i hi j hj e
  rw [secP_length] at hi
  rw [secP_getD hi, secP_getD (by omega)] at e
  have := ofNat_inj (by omega) (by omega) e
  omega
def docL (N K size : Nat) (qs : List (List UInt8)) : List UInt8 := (qs.flatMap fun q => vals q (secP N K)).take size
def shareL (qs : List (List UInt8)) (h : Nat) : List UInt8 := qs.map fun q => hor (UInt8.ofNat (h + 1)) q
def columns (size K : Nat) : Nat := (size + K - 1) / K
def splitL (data : List UInt8) (K : Nat) : List (List UInt8) := (List.range (columns data.length K)).map fun c => mk K fun i => data.getD (c * K + i) 0
theorem flat_getD {K : Nat} (f : Nat → List UInt8) (hf : ∀ c, (f c).length = K) : ∀ n j, j < n * K → ((List.range n).flatMap f).getD j 0 = (f (j / K)).getD (j % K) 0
  | 0, j, h => by omega
  | n + 1, j, h => by
    have hlen : ∀ m, ((List.range m).flatMap f).length = m * K := by
      intro m
      induction m with
      | zero => simp
      | succ m ih => rw [List.range_succ, List.flatMap_append, List.length_append, ih]; simp [hf, Nat.succ_mul]
    rw [List.range_succ, List.flatMap_append, getD_append, hlen]
    split
    · rw [flat_getD f hf n j (by assumption)]
    · rename_i hge
      have hK : 0 < K := by rcases Nat.eq_zero_or_pos K with e | e; · subst e; omega
                            · exact e
      have h1 : j / K = n := by
        apply Nat.div_eq_of_lt_le
        · omega
        · exact h
      have h2 : j % K = j - n * K := by
        have := Nat.div_add_mod j K
        rw [h1, Nat.mul_comm] at this
        omega
      simp [h1, h2]
theorem columns_ge {size K : Nat} (hK : 0 < K) : size ≤ columns size K * K := by
  unfold columns
  have := Nat.div_add_mod (size + K - 1) K
  have := Nat.mod_lt (size + K - 1) hK
  have e : (size + K - 1) / K * K = K * ((size + K - 1) / K) := Nat.mul_comm _ _
  omega
theorem flat_length {K : Nat} (f : Nat → List UInt8) (hf : ∀ c, (f c).length = K) : ∀ m, ((List.range m).flatMap f).length = m * K
  | 0 => by simp
  | m + 1 => by rw [List.range_succ, List.flatMap_append, List.length_append, flat_length f hf m]; simp [hf, Nat.succ_mul]
theorem split_flat {data : List UInt8} {K : Nat} (hK : 0 < K) : ((splitL data K).flatMap id).take data.length = data := by
  have e : (splitL data K).flatMap id = (List.range (columns data.length K)).flatMap fun c => mk K fun i => data.getD (c * K + i) 0 := by
    unfold splitL; rw [List.flatMap_map]; rfl
  have hg := columns_ge (size := data.length) hK
  rw [e]
  refine ext0 ?_ fun k hk => ?_
  · rw [List.length_take, flat_length _ fun c => mk_length _ _]; omega
  · rw [List.length_take, flat_length _ fun c => mk_length _ _] at hk
    rw [getD_take, if_pos (by omega), flat_getD _ (fun c => mk_length _ _) _ _ (by omega), mk_getD, if_pos (Nat.mod_lt _ hK)]
    congr 1
    have := Nat.div_add_mod k K
    rw [Nat.mul_comm]; exact this
/-- The polynomials that a document is dealt by. -/
def polysL (N T K : Nat) (data rnd : List UInt8) : List (List UInt8) :=
  (List.range (columns data.length K)).map fun c => tl (xadd (tl (conv gmul (roots gmul (secP N K)) ((rnd.drop (c * T)).take T))) (rthrN (secP N K) ((splitL data K).getD c []) K))
theorem polysL_length (N T K : Nat) (data rnd : List UInt8) : (polysL N T K data rnd).length = columns data.length K := by simp [polysL]
theorem splitL_length (data : List UInt8) (K : Nat) : (splitL data K).length = columns data.length K := by simp [splitL]
theorem splitL_getD {data : List UInt8} {K c : Nat} (hc : c < columns data.length K) : (splitL data K).getD c [] = mk K fun i => data.getD (c * K + i) 0 := by simp [splitL, List.getD_eq_getElem?_getD, hc]
theorem polysL_getD {N T K : Nat} {data rnd : List UInt8} {c : Nat} (hc : c < columns data.length K) :
    (polysL N T K data rnd).getD c [] = tl (xadd (tl (conv gmul (roots gmul (secP N K)) ((rnd.drop (c * T)).take T))) (rthrN (secP N K) ((splitL data K).getD c []) K)) := by simp [polysL, List.getD_eq_getElem?_getD, hc]
theorem deg1_conv_le (p q : List UInt8) {n : Nat} (h : deg1 p + deg1 q ≤ n + 1) : deg1 (conv gmul p q) ≤ n := by
  refine deg1_le_of fun k hk => ?_
  rw [getD_conv]
  exact cf_deg (by omega)
theorem polysL_tl {N T K : Nat} {data rnd : List UInt8} {c : Nat} (hc : c < columns data.length K) : tl ((polysL N T K data rnd).getD c []) = (polysL N T K data rnd).getD c [] := by
  rw [polysL_getD hc, tl_tl]
theorem polysL_deg {N T K : Nat} {data rnd : List UInt8} {c : Nat} (hc : c < columns data.length K) (hT : 1 ≤ T) : deg1 ((polysL N T K data rnd).getD c []) ≤ T + K := by
  rw [polysL_getD hc, ← tl_length, tl_tl, tl_length]
  refine deg1_le_of fun k hk => ?_
  have h1 : deg1 (conv gmul (roots gmul (secP N K)) ((rnd.drop (c * T)).take T)) ≤ T + K := by
    refine deg1_conv_le _ _ ?_
    have := deg1_le ((rnd.drop (c * T)).take T)
    rw [deg1_roots, secP_length]
    simp only [List.length_take] at this
    omega
  have h2 := rthrN_len (xs := secP N K) (ys := (splitL data K).getD c []) K (by rw [secP_length]; omega)
  rw [secP_length] at h2
  rw [getD_xadd, getD_tl, deg1_zero (by omega), getD_ge (by omega), xor_self]
theorem polysL_at {N T K : Nat} {data rnd : List UInt8} {c i : Nat} (hc : c < columns data.length K) (hi : i < K) (hN : N + K ≤ 255) : hor ((secP N K).getD i 0) ((polysL N T K data rnd).getD c []) = data.getD (c * K + i) 0 := by
  have h0 : hor ((secP N K).getD i 0) (roots gmul (secP N K)) = 0 := (hor_roots _ _).2 (mem_getD.2 ⟨i, by rw [secP_length]; exact hi, rfl⟩)
  rw [polysL_getD hc, hor_tl, hor_xadd, hor_tl, hor_conv, h0, zero_gmul, hor_rthrN (secP_unlike hN) (by rw [secP_length]; exact hi) K (by rw [secP_length]; omega), if_pos hi, splitL_getD hc, mk_getD, if_pos hi, zero_xor]
theorem docL_polys {N T K : Nat} {data rnd : List UInt8} (hK : 0 < K) (hN : N + K ≤ 255) : docL N K data.length (polysL N T K data rnd) = data := by
  have e : (polysL N T K data rnd).map (fun q => vals q (secP N K)) = splitL data K := by
    refine ext_getD [] (by simp [polysL, splitL]) fun c hc => ?_
    simp only [List.length_map, polysL_length] at hc
    have h1 : ((polysL N T K data rnd).map (fun q => vals q (secP N K))).getD c [] = vals ((polysL N T K data rnd).getD c []) (secP N K) := by
      simp [List.getD_eq_getElem?_getD, polysL_length, hc]
    rw [h1, splitL_getD hc]
    refine ext0 (by rw [vals_length, secP_length, mk_length]) fun i hi => ?_
    rw [vals_length, secP_length] at hi
    rw [getD_vals (by rw [secP_length]; exact hi), polysL_at hc hi hN, mk_getD, if_pos hi]
  have : (polysL N T K data rnd).flatMap (fun q => vals q (secP N K)) = (splitL data K).flatMap id := by
    rw [← e, List.flatMap_map]; rfl
  unfold docL
  rw [this, split_flat hK]
end Go.Proofs.YtgmemfcfjlndoaaGreat
