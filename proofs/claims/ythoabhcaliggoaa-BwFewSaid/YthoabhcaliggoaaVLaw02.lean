/-
  The walks of the laws of layer 2.
-/
import Derived.Test.YthoabhcaliggoaaVPoly
import Derived.Test.YthoabhcaliggoaaVRef
set_option linter.unusedVariables false
set_option linter.unusedSimpArgs false
namespace Go.Proofs.Ythoabhcaliggoaa
open Go Go.Vc Go.Gf

set_option maxRecDepth 100000 in
theorem known_thr : thrOk [1, 2] 2 ∧ thrN [1, 2] [5, 5] 2 = [5] ∧ roots gmul [3] = [3, 1] ∧ hor 7 [1, 1] = 6 := by decide +kernel
theorem answers02_ok (H : Heap) : CallsH Try.prog 33 [] H fun v H' => v = .bool true ∧ Ext H H' := by
  obtain ⟨k1, k2, k3, k4⟩ := known_thr
  refine CallsH.enter h33 Try.func33 rfl rfl rfl (by decide) fun u => go ?_
  refine RegS.call (new_ok H) ?_
  rintro _ H1 ⟨fb, rfl, hF, e1⟩
  refine go ?_
  refine RegS.buildSlice fun H2 o2 e2 z2 => ?_
  have m2 : Mine H2 H1.size (Sl.fresh H1.size 2) [1, 2] := OwnR.mine (e := 5) o2
  refine go ?_
  refine RegS.buildSlice fun H3 o3 e3 z3 => ?_
  have m3 : Mine H3 H2.size (Sl.fresh H2.size 2) [5, 5] := OwnR.mine (e := 5) o3
  refine go ?_
  refine RegS.call (through_ok fb _ _ [1, 2] [5, 5] H3 (hF.ext (e2.trans e3)) (m2.ext e3).bytes m3.bytes (by simp) (by simp)) ?_
  rintro _ H4 ⟨e4, h4⟩
  rw [if_pos ⟨rfl, k1⟩] at h4
  obtain ⟨s4, rfl, m4⟩ := h4
  rw [show [(1 : UInt8), 2].length = 2 from rfl, k2] at m4
  have b4 := m4.bytes
  refine go ?_
  refine RegS.buildSlice fun H5 o5 e5 z5 => ?_
  have m5 : Mine H5 H4.size (Sl.fresh H4.size 1) [3] := OwnR.mine (e := 5) o5
  have x5 : Ext H1 H5 := ((e2.trans e3).trans e4).trans e5
  refine go ?_
  refine RegS.call (roots_ok fb _ [3] H5 (hF.ext x5) m5.bytes (by simp)) ?_
  rintro _ H6 ⟨s6, rfl, m6, e6⟩
  rw [k3] at m6
  have b6 := m6.bytes
  refine go ?_
  refine RegS.buildSlice fun H7 o7 e7 z7 => ?_
  have m7 : Mine H7 H6.size (Sl.fresh H6.size 2) [1, 1] := OwnR.mine (e := 5) o7
  refine go ?_
  refine RegS.call (eval_ok fb _ [1, 1] 7 H7 (hF.ext ((x5.trans e6).trans e7)) m7.bytes (by simp)) ?_
  rintro _ H8 ⟨rfl, e8⟩
  refine go ?_
  refine RegS.call (degree_ok Sl.nil [] H8 (Bytes.nil _) (by simp)) ?_
  rintro _ _ ⟨rfl, rfl⟩
  have hd : (deg1 [] : Int) - 1 = -1 := rfl
  refine go ?_
  refine ret1 ⟨?_, ((e1.trans x5).trans (e6.trans e7)).trans e8⟩
  rw [dec_pos hd]

theorem short_ok (s : Sl) (ss : List Sl) (ls : List (List UInt8)) (H : Heap) (hs : RowF Sl.val Sl.nil H s ss) (hl : ss.length = ls.length) (hb : ∀ k, k < ss.length → Bytes H (ss.getD k Sl.nil) (ls.getD k [])) (hn : ss.length ≤ 1000) : CallsH Try.prog 38 [s.val] H fun v H' => v = .bool (dec (∀ k, k < ss.length → (ls.getD k []).length ≤ 200)) ∧ H = H' := by
  refine CallsH.enter h38 Try.func38 rfl rfl rfl (by decide) fun u => go ?_
  refine Wp.loop (ι := Nat) (fun i => [(0, s.val), (3, I64 i)]) (fun i A => i ≤ ss.length ∧ (∀ k, k < i → (ls.getD k []).length ≤ 200) ∧ H = A) (fun i => ss.length - i) 0 ⟨rfl, rfl, trivial⟩ ⟨by omega, fun k h => absurd h (by omega), rfl⟩ ?_
  rintro i _ ⟨hi, hall, rfl⟩
  refine go ?_
  refine Wp.br (fun h => ?_) (fun h => ?_)
  · have hbi := hb i (by omega)
    refine go ?_
    refine Wp.br (fun h' => ?_) (fun h' => ?_) <;> refine go ?_
    · refine ret1 ⟨?_, rfl⟩
      rw [dec_neg (fun k => by have := k i (by omega); omega)]
    · refine roundQ_n (i + 1) ⟨rfl, rfl, trivial⟩ ⟨by omega, fun k hk => ?_, rfl⟩ (by omega)
      by_cases e : k = i
      · subst e; omega
      · exact hall k (by omega)
  · refine go ?_
    refine ret1 ⟨?_, rfl⟩
    rw [dec_pos (fun k hk => hall k (by omega))]

theorem spoil_ok (s : Sl) (l : List UInt8) (base : Nat) (H : Heap) (hm : Mine H base s l) : CallsH Try.prog 50 [s.val] H fun v H' => Chg (fun b => s.blk = some b) H H' := by
  have hcap := hm.cap
  have hlen := hm.bytes.len
  have hle := s.le
  refine CallsH.enter h50 Try.func50 rfl rfl rfl (by decide) fun u => go ?_
  refine Wp.loop (ι := Nat) (fun i => [(0, s.val), (2, I64 i)]) (fun i A => i ≤ l.length ∧ (∃ l', l'.length = l.length ∧ Mine A base s l') ∧ Chg (fun b => s.blk = some b) H A) (fun i => l.length - i) 0 ⟨rfl, rfl, trivial⟩ ⟨by omega, ⟨l, rfl, hm⟩, Chg.refl _ _⟩ ?_
  rintro i A ⟨hi, ⟨l', hl', hm'⟩, c⟩
  have hb := hm'.bytes
  refine go ?_
  refine Wp.br (fun h => ?_) (fun h => ?_) <;> refine go ?_
  · refine RegS.store (hm'.wr (j := i) (by omega)) ?_
    refine go ?_
    obtain ⟨h1, h2⟩ := hm'.set (j := i) (by omega) (l'.getD i 0 ^^^ 255)
    exact roundQ_n (i + 1) ⟨rfl, rfl, trivial⟩ ⟨by omega, ⟨_, by simpa using hl', h1⟩, c.trans h2⟩ (by omega)
  · exact ret0n c
end Go.Proofs.Ythoabhcaliggoaa
