/-
  The document's answer of layers 12 and 13, walked: a message's bytes.
-/
import Derived.Shelf.Small.Strs
import Derived.Shelf.Sort.Plain
import Derived.Ground.Names2Prog
import Derived.Shelf.Slices.CompactI
import Derived.Shelf.Slices.In.SortNone
import Derived.Test.YtaikdcnifijcoaaGreatProg
import Derived.Test.YtaikdcnifijcoaaGreatQ04
import Derived.Test.YtaikdcnifijcoaaGreatQ06
import Derived.Test.YtaikdcnifijcoaaGreatQ01
namespace Go.Proofs
open Go.Shelf
def Tryz.lays213_ren : Go.Shelf.Ren := ⟨fun | 213 => 244 | 265 => 269 | n => n, fun | 9 => 9 | 3 => 3 | n => n, fun | n => n⟩
def Tryz.lays106_ren : Go.Shelf.Ren := ⟨fun | 106 => 201 | 213 => 244 | 265 => 269 | n => n, fun | 9 => 9 | 3 => 3 | n => n, fun | n => n⟩
theorem Tryz.lays106 : Go.Proofs.Lays.n106 Tryz.prog Tryz.lays106_ren := {
  mixed := by kernel_rfl
  f106 := Tryz.func201.trans (congrArg some (by kernel_rfl))
  f213 := Tryz.func244.trans (congrArg some (by kernel_rfl))
  f265 := Tryz.func269.trans (congrArg some (by kernel_rfl))
  t3 := Tryz.underlying3
  a3 := Tryz.isAgg3
  z3 := Tryz.sizeOf3
  v3 := Tryz.zeroValue3
  t9 := Tryz.underlying9
  a9 := Tryz.isAgg9
  z9 := Tryz.sizeOf9
  v9 := Tryz.zeroValue9 }
open Go.RowKit in
/-- strings.Compare: "Compare returns an integer comparing two strings lexicographically. The result will be 0 if a == b, -1 if a < b, and +1 if a > b.": IT RETURNS 'Lib.compareBytes a b'; the world is as it was. (LAID: no walk: one application.) -/
theorem Tryz.strings_Compare (a b : ByteArray) (w : World) :
    Calls Tryz.prog 201 #[.string a, .string b] w fun e w' => e = .returned (.int .i64 (Lib.compareBytes a.data.toList b.data.toList)) ∧ w' = w := Any.strings_Compare Tryz.lays106 a b w
def Tryz.lays189_ren : Go.Shelf.Ren := ⟨fun | 189 => 179 | 125 => 236 | 257 => 235 | 128 => 263 | 129 => 264 | 294 => 254 | 295 => 255 | 296 => 256 | 297 => 257 | 298 => 258 | 299 => 259 | 216 => 260 | 300 => 261 | 301 => 262 | 328 => 271 | 329 => 272 | 330 => 273 | 331 => 274 | 332 => 275 | 215 => 276 | 343 => 282 | n => n, fun | 28 => 34 | 3 => 3 | 46 => 230 | 0 => 0 | 51 => 284 | 53 => 286 | 4 => 4 | 183 => 277 | 182 => 276 | 131 => 183 | 5 => 5 | 9 => 9 | 218 => 291 | 222 => 295 | 228 => 302 | 229 => 60 | n => n, fun | n => n⟩
theorem Tryz.lays189 : Go.Proofs.Lays.n189 Tryz.prog Tryz.lays189_ren := {
  mixed := by kernel_rfl
  f125 := Tryz.func236.trans (congrArg some (by kernel_rfl))
  f128 := Tryz.func263.trans (congrArg some (by kernel_rfl))
  f129 := Tryz.func264.trans (congrArg some (by kernel_rfl))
  f189 := Tryz.func179.trans (congrArg some (by kernel_rfl))
  f215 := Tryz.func276.trans (congrArg some (by kernel_rfl))
  f216 := Tryz.func260.trans (congrArg some (by kernel_rfl))
  f257 := Tryz.func235.trans (congrArg some (by kernel_rfl))
  f294 := Tryz.func254.trans (congrArg some (by kernel_rfl))
  f295 := Tryz.func255.trans (congrArg some (by kernel_rfl))
  f296 := Tryz.func256.trans (congrArg some (by kernel_rfl))
  f297 := Tryz.func257.trans (congrArg some (by kernel_rfl))
  f298 := Tryz.func258.trans (congrArg some (by kernel_rfl))
  f299 := Tryz.func259.trans (congrArg some (by kernel_rfl))
  f300 := Tryz.func261.trans (congrArg some (by kernel_rfl))
  f301 := Tryz.func262.trans (congrArg some (by kernel_rfl))
  f328 := Tryz.func271.trans (congrArg some (by kernel_rfl))
  f329 := Tryz.func272.trans (congrArg some (by kernel_rfl))
  f330 := Tryz.func273.trans (congrArg some (by kernel_rfl))
  f331 := Tryz.func274.trans (congrArg some (by kernel_rfl))
  f332 := Tryz.func275.trans (congrArg some (by kernel_rfl))
  f343 := Tryz.func282.trans (congrArg some (by kernel_rfl))
  t0 := Tryz.underlying0
  a0 := Tryz.isAgg0
  z0 := Tryz.sizeOf0
  v0 := Tryz.zeroValue0
  t3 := Tryz.underlying3
  a3 := Tryz.isAgg3
  z3 := Tryz.sizeOf3
  v3 := Tryz.zeroValue3
  t4 := Tryz.underlying4
  a4 := Tryz.isAgg4
  z4 := Tryz.sizeOf4
  v4 := Tryz.zeroValue4
  t5 := Tryz.underlying5
  a5 := Tryz.isAgg5
  z5 := Tryz.sizeOf5
  v5 := Tryz.zeroValue5
  t9 := Tryz.underlying9
  a9 := Tryz.isAgg9
  z9 := Tryz.sizeOf9
  v9 := Tryz.zeroValue9
  t28 := Tryz.underlying34
  a28 := Tryz.isAgg34
  z28 := Tryz.sizeOf34
  v28 := Tryz.zeroValue34
  t46 := Tryz.underlying230
  a46 := Tryz.isAgg230
  z46 := Tryz.sizeOf230
  v46 := Tryz.zeroValue230
  t51 := Tryz.underlying284
  a51 := Tryz.isAgg284
  z51 := Tryz.sizeOf284
  v51 := Tryz.zeroValue284
  t53 := Tryz.underlying286
  a53 := Tryz.isAgg286
  z53 := Tryz.sizeOf286
  v53 := Tryz.zeroValue286
  t131 := Tryz.underlying183
  a131 := Tryz.isAgg183
  z131 := Tryz.sizeOf183
  v131 := Tryz.zeroValue183
  t182 := Tryz.underlying276
  a182 := Tryz.isAgg276
  z182 := Tryz.sizeOf276
  v182 := Tryz.zeroValue276
  t183 := Tryz.underlying277
  a183 := Tryz.isAgg277
  z183 := Tryz.sizeOf277
  v183 := Tryz.zeroValue277
  t218 := Tryz.underlying291
  a218 := Tryz.isAgg291
  z218 := Tryz.sizeOf291
  v218 := Tryz.zeroValue291
  t222 := Tryz.underlying295
  a222 := Tryz.isAgg295
  z222 := Tryz.sizeOf295
  v222 := Tryz.zeroValue295
  t228 := Tryz.underlying302
  a228 := Tryz.isAgg302
  z228 := Tryz.sizeOf302
  v228 := Tryz.zeroValue302
  t229 := Tryz.underlying60
  a229 := Tryz.isAgg60
  z229 := Tryz.sizeOf60
  v229 := Tryz.zeroValue60 }
open Go.Sort Go.RowKit in
theorem Tryz.slices_Sort_int (blk off cap : Nat) (zs : List Int) (w : World) (hH : Holds (Value.int .i64) w blk off zs.toArray) (hblk : blk < w.heap.size) (hsz : zs.length < 4611686018427387904) :
    Calls Tryz.prog 179 #[.slice (some ⟨blk, off, none⟩) zs.length cap] w fun e w' =>
      e = .returned (.tuple #[]) ∧ ∃ n os, w' = grow (putRow (Value.int .i64) (Sort.ahead w n) blk off (zs.mergeSort fun x y => decide (x ≤ y)).toArray) os := Any.slices_Sort_int Tryz.lays189 blk off cap zs w hH hblk hsz
def Tryz.laysNm220_ren : Go.Shelf.Ren := ⟨fun | 20 => 185 | n => n, fun | 22 => 34 | 3 => 3 | 4 => 4 | 0 => 0 | n => n, fun | n => n⟩
theorem Tryz.laysNm220 : Go.Proofs.Lays2.n20 Tryz.prog Tryz.laysNm220_ren := {
  mixed := by kernel_rfl
  f20 := Tryz.func185.trans (congrArg some (by kernel_rfl))
  t0 := Tryz.underlying0
  a0 := Tryz.isAgg0
  z0 := Tryz.sizeOf0
  v0 := Tryz.zeroValue0
  t3 := Tryz.underlying3
  a3 := Tryz.isAgg3
  z3 := Tryz.sizeOf3
  v3 := Tryz.zeroValue3
  t4 := Tryz.underlying4
  a4 := Tryz.isAgg4
  z4 := Tryz.sizeOf4
  v4 := Tryz.zeroValue4
  t22 := Tryz.underlying34
  a22 := Tryz.isAgg34
  z22 := Tryz.sizeOf34
  v22 := Tryz.zeroValue34
  i3 := by kernel_rfl }
open Go.RowKit Go.Lib Go.Sort in
/-- slices.Compact at []int: "Compact replaces consecutive runs of equal elements with a single copy. This is like the uniq command found on Unix. Compact modifies the contents of the slice s and returns the modified slice, which may have a smaller length. Compact zeroes the elements between the new length and the original length. The result preserves the nilness of s.": IT RETURNS THE SLICE CUT TO 'Lib.compact zs'; ITS CELLS HOLD 'Lib.compact zs', THEN ZERO VALUES up to the old length; all else is as it was, but for the count of draws. IN THE WORDS OF slices.Sort's CONTRACT ('Holds', 'putRow'): so the everyday 'slices.Sort(xs); xs = slices.Compact(xs)' goes from the one contract to the other. It asks 'zs.length ≤ cap' (every slice's: the reslicing 's[:k]' looks at it). Length 0, nil: '.._empty'. (LAID: no walk: one application.) -/
theorem Tryz.slices_Compact_int (blk off cap : Nat) (zs : List Int) (w : World) (hH : Holds (Value.int .i64) w blk off zs.toArray) (hsz : zs.length ≤ 9223372036854775807) (hcap : zs.length ≤ cap) :
    Calls Tryz.prog 185 #[.slice (some ⟨blk, off, none⟩) zs.length cap] w fun e w' => e = .returned (.slice (some ⟨blk, off, none⟩) (Lib.compact zs).length cap) ∧ ∃ q, w' = putRow (Value.int .i64) (Sort.ahead w q) blk off (Lib.compact zs ++ List.replicate (zs.length - (Lib.compact zs).length) 0).toArray := Any.slices_Compact_int Tryz.laysNm220 blk off cap zs w hH hsz hcap
open Go.RowKit Go.Lib Go.Sort in
/-- The same at a slice of length 0, a nil one too: it comes back as it is. (LAID: no walk: one application.) -/
theorem Tryz.slices_Compact_int_empty (a : Option Addr) (cap : Nat) (w : World) :
    Calls Tryz.prog 185 #[.slice a 0 cap] w fun e w' => e = .returned (.slice a 0 cap) ∧ w' = w := Any.slices_Compact_int_empty Tryz.laysNm220 a cap w
open Go.RowKit Go.Sort in
/-- .. and plain. (LAID: no walk: one application.) -/
theorem Tryz.slices_Sort_int_none (p : Option Addr) (cap : Nat) (w : World) :
    Calls Tryz.prog 179 #[.slice p 0 cap] w fun e w' => e = .returned (.tuple #[]) ∧ w' = w := Any.slices_Sort_int_none Tryz.lays189 p cap w
end Go.Proofs
set_option linter.unusedVariables false
set_option linter.unusedSimpArgs false
namespace Go.Proofs.YtaikdcnifijcoaaGreat
open Go
abbrev IV (n : Int) : Value := .int .i64 n
end Go.Proofs.YtaikdcnifijcoaaGreat
set_option linter.unusedVariables false
set_option linter.unusedSimpArgs false
namespace Go.Proofs.YtaikdcnifijcoaaGreat
open Go Go.Vc
def intB (n : Int) : List UInt8 := if n < -2 ∨ 2147483645 < n then [] else [UInt8.ofNat ((n + 2).toNat / 16777216), UInt8.ofNat ((n + 2).toNat / 65536 % 256), UInt8.ofNat ((n + 2).toNat / 256 % 256), UInt8.ofNat ((n + 2).toNat % 256)]
theorem intB_le (n : Int) : (intB n).length ≤ 4 := by unfold intB; split <;> simp
def putB (l : List Int) : List UInt8 := l.flatMap intB
theorem putB_le : ∀ l : List Int, (putB l).length ≤ 4 * l.length
  | [] => by simp [putB]
  | a :: r => by
    have := intB_le a
    have := putB_le r
    unfold putB at this ⊢
    rw [List.flatMap_cons, List.length_append, List.length_cons]; omega
theorem putB_snoc (l : List Int) (n : Int) : putB (l ++ [n]) = putB l ++ intB n := by unfold putB; rw [List.flatMap_append]; simp
def badI (l : List Int) : Bool := l.any fun n => decide (n < -2 ∨ 2147483645 < n)
theorem badI_snoc (l : List Int) (n : Int) : badI (l ++ [n]) = (badI l || badI [n]) := by simp [badI]
def badL (b : List UInt8) : Bool := decide (65535 < b.length)
def layB (b : List UInt8) : List UInt8 := if 65535 < b.length then [] else [UInt8.ofNat (b.length / 256), UInt8.ofNat (b.length % 256)] ++ b
theorem layB_le (b : List UInt8) : (layB b).length ≤ b.length + 2 := by unfold layB; split <;> simp
def headsB (l : List HdT) : List UInt8 := l.flatMap fun x => layB x.1 ++ putB [x.2]
def badH (l : List HdT) : Bool := l.any fun x => badL x.1 || badI [x.2]
theorem badH_snoc (l : List HdT) (x : HdT) : badH (l ++ [x]) = (badH l || (badL x.1 || badI [x.2])) := by simp [badH]
def hdW (l : List HdT) : Nat := (l.map fun x => x.1.length + 6).sum
theorem headsB_le : ∀ l : List HdT, (headsB l).length ≤ hdW l
  | [] => by simp [headsB, hdW]
  | a :: r => by
    have h1 := layB_le a.1
    have h2 := putB_le [a.2]
    have h3 := headsB_le r
    unfold headsB hdW at *
    simp only [List.flatMap_cons, List.length_append, List.map_cons, List.sum_cons, List.length_singleton] at *
    omega
theorem headsB_snoc (l : List HdT) (x : HdT) : headsB (l ++ [x]) = headsB l ++ (layB x.1 ++ putB [x.2]) := by unfold headsB; rw [List.flatMap_append]; simp
/-- A book that grows. -/
structure BookAt (A : Heap) (base kb : Nat) (O : Sl) (out : List UInt8) (bad : Bool) : Prop where
  blk : Blk A kb 134 [O.val, .bool bad]
  own : OwnF B8 A base 5 O out
  ne : O.blk ≠ some kb
  ge : base ≤ kb
/-- What is read lies apart from a book. -/
def Apart (A : Heap) (kb : Nat) (O s : Sl) : Prop := 0 < s.len → ∀ b, s.blk = some b → b < A.size ∧ b ≠ kb ∧ O.blk ≠ some b
section
variable {A A' : Heap} {base kb : Nat} {O O' s : Sl} {out out' : List UInt8} {bad bad' : Bool}
theorem BookAt.ext (h : BookAt A base kb O out bad) (e : Ext A A') : BookAt A' base kb O out bad := ⟨h.blk.ext e, h.own.ext e, h.ne, h.ge⟩
theorem BookAt.size (h : BookAt A base kb O out bad) : base ≤ A.size := by have := h.blk.lt; have := h.ge; omega
theorem BookAt.old (h : BookAt A base kb O out bad) (hs : 0 < s.len → ∀ b, s.blk = some b → b < base) : Apart A kb O s := fun hp b hb =>
  ⟨by have := hs hp b hb; have := h.size; omega, by have := hs hp b hb; have := h.ge; omega, fun ho => by have := hs hp b hb; have := (h.own.blk_ge ho).1; omega⟩
theorem BookAt.new (h : BookAt A base kb O out bad) (e : Ext A A') (hs : ∀ b, s.blk = some b → A.size ≤ b ∧ b < A'.size) : Apart A' kb O s := fun _ b hb =>
  ⟨(hs b hb).2, by have := (hs b hb).1; have := h.blk.lt; omega, fun ho => by have := (hs b hb).1; have := (h.own.blk_ge ho).2; omega⟩
theorem Apart.ext (h : Apart A kb O s) (e : Ext A A') : Apart A' kb O s := fun hp b hb => ⟨Nat.lt_of_lt_of_le (h hp b hb).1 e.size, (h hp b hb).2⟩
end
theorem Blk.two {H : Heap} {b : Nat} {e : TypeId} {u v x y : Value} (h : Blk H b e [u, v]) : Blk (hset (hset H ⟨b, 0, none⟩ x) ⟨b, 1, none⟩ y) b e [x, y] := Blk.set (j := 1) (v := y) (Blk.set (j := 0) (v := x) h)
theorem int_ok (n : Int) (H : Heap) : CallsH Tryz.prog 155 [IV n] H fun v H' => ∃ (t : Sl), v = .tuple #[t.val, .bool (!badI [n])] ∧ Mine H' H.size t (intB n) ∧ Ext H H' := by
  refine CallsH.enter h155 Tryz.func155 rfl rfl rfl (by decide) fun u => go ?_
  have no : (n < -2 ∨ 2147483645 < n) → Mine H H.size Sl.nil (intB n) := fun h => by
    rw [intB, if_pos h]; exact OwnR.mine (e := 5) (OwnR.nil _ _ _ _)
  have nb : (n < -2 ∨ 2147483645 < n) → (!badI [n]) = false := fun h => by simp only [badI, List.any_cons, List.any_nil, decide_eq_true h]; rfl
  refine RegS.sp (fun h1 => ?_) (fun h1 => ?_) <;> refine go ?_
  · exact ret2 ⟨Sl.nil, by rw [nb (by omega)], no (by omega), Ext.refl _⟩
  refine Wp.br (fun h2 => ?_) (fun h2 => ?_) <;> refine go ?_
  · exact ret2 ⟨Sl.nil, by rw [nb (by omega)], no (by omega), Ext.refl _⟩
  obtain ⟨m, rfl⟩ : ∃ m : Nat, n = (m : Int) - 2 := ⟨(n + 2).toNat, by omega⟩
  rw [show (m : Int) - 2 + ((2 : Nat) : Int) = (m : Int) by omega]
  refine go ?_
  refine RegS.buildSlice fun H1 o1 e1 z1 => ?_
  refine go ?_
  refine ret2 ⟨_, by rw [show (!badI [(m : Int) - 2]) = true by simp only [badI, List.any_cons, List.any_nil, decide_eq_false (show ¬ ((m : Int) - 2 < -2 ∨ 2147483645 < (m : Int) - 2) by omega)]; rfl], ?_, e1⟩
  have : intB ((m : Int) - 2) = [UInt8.ofNat (m / 16777216), UInt8.ofNat (m / 65536 % 256), UInt8.ofNat (m / 256 % 256), UInt8.ofNat (m % 256)] := by
    rw [intB, if_neg (by omega), show ((m : Int) - 2 + 2).toNat = m by omega]
  rw [this]
  exact OwnR.mine (e := 5) o1
theorem bytes_ok (s : Sl) (l : List UInt8) (H : Heap) (hs : Bytes H s l) (hl : l.length ≤ 140737488351232) : CallsH Tryz.prog 156 [s.val] H fun v H' => ∃ (t : Sl), v = .tuple #[t.val, .bool (!badL l)] ∧ Mine H' H.size t (layB l) ∧ Ext H H' := by
  refine CallsH.enter h156 Tryz.func156 rfl rfl rfl (by decide) fun u => go ?_
  refine Wp.br (fun h1 => ?_) (fun h1 => ?_) <;> refine go ?_
  · refine ret2 ⟨Sl.nil, by rw [badL, decide_eq_true (by omega)], ?_, Ext.refl _⟩
    rw [layB, if_pos (by omega)]; exact OwnR.mine (e := 5) (OwnR.nil _ _ _ _)
  refine RegS.buildSlice fun H1 o1 e1 z1 => ?_
  have o1 : OwnF B8 H1 H.size 5 (Sl.fresh H.size 2) [UInt8.ofNat (l.length / 256), UInt8.ofNat (l.length % 256)] := o1
  refine go ?_
  refine RegS.append (f := B8) o1 (hs.ext e1) (fun _ => rfl) (by omega) ?_ ?_ ?_
  · simp only [List.length_cons, List.length_nil]; omega
  · simp only [List.length_cons, List.length_nil]; omega
  intro t H2 o2 c2 b2
  refine go ?_
  refine ret2 ⟨t, by rw [badL, decide_eq_false (by omega)], ?_, e1.then c2 fun b hb => (o1.blk_ge hb).1⟩
  rw [layB, if_neg (by omega)]; exact OwnR.mine (e := 5) o2
set_option maxHeartbeats 4000000 in
theorem put_ok (base kb : Nat) (O : Sl) (out : List UInt8) (bad : Bool) (s : Sl) (l : List Int) (H : Heap) (hB : BookAt H base kb O out bad) (hs : RowF IV 0 H s l) (ha : Apart H kb O s) (hl : l.length ≤ 4000000) (ho : out.length ≤ 100000000) :
    CallsH Tryz.prog 80 [.pointer (some ⟨kb, 0, none⟩), s.val] H fun v H' => ∃ (O' : Sl), BookAt H' base kb O' (out ++ putB l) (bad || badI l) ∧ Chg (fun b => base ≤ b) H H' := by
  refine CallsH.enter h80 Tryz.func80 rfl rfl rfl (by decide) fun u => go ?_
  refine Wp.loop (ι := Nat × Sl) (fun i => [(0, .pointer (some ⟨kb, 0, none⟩)), (1, s.val), (4, I64 i.1)]) (fun i A => i.1 ≤ l.length ∧ BookAt A base kb i.2 (out ++ putB (l.take i.1)) (bad || badI (l.take i.1)) ∧ RowF IV 0 A s l ∧ Apart A kb i.2 s ∧ Chg (fun b => base ≤ b) H A) (fun i => l.length - i.1) (0, O) subs ⟨Nat.zero_le _, by simpa [putB, badI] using hB, hs, ha, Chg.refl _ _⟩ ?_
  rintro ⟨i, P⟩ A ⟨hi, hBA, hsA, haA, cA⟩
  have hi : i ≤ l.length := hi
  obtain ⟨bd, hbd⟩ : ∃ bd, bd = (bad || badI (l.take i)) := ⟨_, rfl⟩
  have hBA : BookAt A base kb P (out ++ putB (l.take i)) bd := by rw [hbd]; exact hBA
  have haA : Apart A kb P s := haA
  have hpl := putB_le (l.take i)
  have htk : (l.take i).length = i := by rw [List.length_take]; omega
  have zA := hBA.size
  show Wp _ _ _ [(0, .pointer (some ⟨kb, 0, none⟩)), (1, s.val), (4, I64 i)] _ _
  refine go ?_
  refine Wp.br (fun hlt => ?_) (fun hlt => ?_)
  case refine_2 =>
    have hlt : ¬ (i : Int) < (l.length : Int) := hlt
    have : i = l.length := by omega
    subst this
    rw [List.take_length] at hBA hbd
    subst hbd
    refine go ?_
    exact ret0n ⟨P, hBA, cA⟩
  have hlt : (i : Int) < (l.length : Int) := hlt
  refine go ?_
  refine RegS.call (int_ok (l.getD i 0) A) ?_
  rintro _ A1 ⟨t, rfl, mt, e1⟩
  have hB1 := hBA.ext e1
  have ib := intB_le (l.getD i 0)
  have k1 := hB1.blk
  have rt := mt.bytes
  have z1 := e1.size
  have hx : l.take (i + 1) = l.take i ++ [l.getD i 0] := by
    rw [List.take_add_one, List.getElem?_eq_getElem (by omega)]
    simp [List.getD_eq_getElem?_getD, show i < l.length by omega]
  refine go ?_
  refine RegP.append (f := B8) hB1.own rt (fun _ => rfl) (by omega) ?_ ?_ ?_
  · simp only [List.length_append]; omega
  · simp only [List.length_append]; omega
  intro P' A2 o2 c2 b2
  have k2 : Blk A2 kb 134 [P.val, .bool bd] := k1.chg c2 fun h => hB1.ne h
  have hne : P'.blk ≠ some kb := by
    rcases b2 with e | ⟨b', e, hz⟩
    · rw [e]; exact hB1.ne
    · rw [e]; simp only [ne_eq, Option.some.injEq]; have := k1.lt; omega
  refine ⟨.inr proms, ?_⟩
  cases bd <;> refine go ?_
  all_goals
    refine RegP.store (Blk.wr k2 (j := 0) (by simp)) ?_ ?_
    · exact proms
    have k3 : Blk (hset A2 ⟨kb, 0, none⟩ P'.val) kb 134 [P'.val, _] := Blk.set (j := 0) (v := P'.val) k2
    refine go ?_
    refine RegP.store (Blk.wr k3 (j := 1) (by simp)) ?_ ?_
    · exact proms
    refine go ?_
    have kc : ∀ v, Chg (fun b => b = kb) A2 (hset (hset A2 ⟨kb, 0, none⟩ P'.val) ⟨kb, 1, none⟩ v) := fun v => (hset_chg A2 ⟨kb, 0, none⟩ P'.val).trans (hset_chg _ ⟨kb, 1, none⟩ v)
    refine roundQ_n (i + 1, P') subs ⟨by simp only; omega, ⟨by rw [hx, badI_snoc, ← Bool.or_assoc, ← hbd]; simpa [norm_eq] using Blk.two k2, OwnR.chg ?_ (kc _) fun b hb hb' => by subst hb'; exact hne hb, hne, hBA.ge⟩, ?_, ?_, ?_⟩ (by simp only; omega)
    · show OwnF B8 _ _ _ _ (out ++ putB (l.take (i + 1)))
      rw [hx, putB_snoc, ← List.append_assoc]; exact o2
    · refine RowF.chgN (RowF.chgN (hsA.ext e1) c2 fun hp b hb => ?_) (kc _) fun hp b hb => ?_
      · exact ⟨by have := (haA hp b hb).1; omega, (haA hp b hb).2.2⟩
      · exact ⟨by have := (haA hp b hb).1; have := c2.size; omega, (haA hp b hb).2.1⟩
    · intro hp b hb
      have h3 := haA hp b hb
      refine ⟨Nat.lt_of_lt_of_le (by have := c2.size; omega) (kc _).size, h3.2.1, ?_⟩
      rcases b2 with e | ⟨b', e, hz⟩
      · show P'.blk ≠ some b
        rw [e]; exact h3.2.2
      · show P'.blk ≠ some b
        rw [e]; simp only [ne_eq, Option.some.injEq]; omega
    · refine Chg.trans (cA.trans (Chg.trans (e1.chg _) (c2.mono fun b _ hb => (hB1.own.blk_ge hb).1))) ((kc _).mono fun b _ hb => by subst hb; exact hBA.ge)
end Go.Proofs.YtaikdcnifijcoaaGreat
