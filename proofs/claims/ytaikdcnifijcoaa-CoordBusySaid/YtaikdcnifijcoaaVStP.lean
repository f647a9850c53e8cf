/-
  The plain words of what is kept: power, a slot, a book.
-/
import Derived.Test.YtaikdcnifijcoaaVMsg3
import Derived.Test.YtaikdcnifijcoaaVPlain
set_option linter.unusedVariables false
set_option linter.unusedSimpArgs false
namespace Go.Proofs.Ytaikdcnifijcoaa
open Go Go.Vc Go.Gf

/-- The power of a disk: how many writes are done yet (-1: as many as there are), and whether it is gone. -/
structure Pw where
  left : Int
  gone : Bool
def Pw.wr (p : Pw) : Pw := if p.gone = true ∨ p.left = 0 then ⟨p.left, true⟩ else ⟨if 0 < p.left then p.left - 1 else p.left, false⟩
def Pw.run : Nat → Pw → Pw
  | 0, p => p
  | k + 1, p => (Pw.run k p).wr
theorem Pw.wr_gone {p : Pw} (h : p.gone = true) : p.wr = p := by
  rw [Pw.wr, if_pos (.inl h)]; cases p; simp only at h; rw [h]
theorem Pw.run_add (j k : Nat) (p : Pw) : Pw.run (j + k) p = Pw.run k (Pw.run j p) := by
  induction k with
  | zero => rfl
  | succ k ih => rw [← Nat.add_assoc, Pw.run, ih]; rfl
theorem Pw.run_gone {p : Pw} (h : p.gone = true) : ∀ k, Pw.run k p = p
  | 0 => rfl
  | k + 1 => by rw [Pw.run, Pw.run_gone h k, Pw.wr_gone h]
/-- Behind a write that was not done nothing is done any more. -/
theorem Pw.run_stop {p : Pw} {j k : Nat} (h : (Pw.run j p).gone = true) (hk : j ≤ k) : Pw.run k p = Pw.run j p := by
  obtain ⟨d, rfl⟩ : ∃ d, k = j + d := ⟨k - j, by omega⟩
  rw [Pw.run_add, Pw.run_gone h]
theorem Pw.run_ok {p : Pw} {j k : Nat} (h : (Pw.run k p).gone = false) (hk : j ≤ k) : (Pw.run j p).gone = false := by
  cases hg : (Pw.run j p).gone with
  | false => rfl
  | true => rw [Pw.run_stop hg hk, hg] at h; cases h
def pw0 : Pw := ⟨-1, false⟩
theorem pw0_run : ∀ k, Pw.run k pw0 = pw0
  | 0 => rfl
  | k + 1 => by rw [Pw.run, pw0_run k]; rfl
def takesN (n : Nat) : Nat := (n + 31) / 32
/-- What is kept on a disk. -/
structure Slt where
  room : Nat
  kept : List UInt8
  pw : Pw
def Slt.save (s : Slt) (b : List UInt8) : Slt × Nat :=
  if s.room < takesN b.length then (s, 7) else
  if (Pw.run (takesN b.length + 1) s.pw).gone = true then ({ s with pw := Pw.run (takesN b.length + 1) s.pw }, 3) else
  ({ s with kept := b, pw := Pw.run (takesN b.length + 1 + takesN s.kept.length) s.pw }, if (Pw.run (takesN b.length + 1 + takesN s.kept.length) s.pw).gone = true then 3 else 0)
def Slt.start (s : Slt) : Slt := { s with pw := pw0 }
def Slt.fuse (s : Slt) (n : Int) : Slt := { s with pw := ⟨max n 0, s.pw.gone⟩ }
def slt0 (room : Int) : Slt := ⟨(min (max room 0) 512).toNat, [], pw0⟩
def pieceB (b : List UInt8) (i : Nat) : List UInt8 := mk 32 fun j => b.getD (32 * i + j) 0
def zeroB : List UInt8 := List.replicate 32 0
def rootB (side n : Nat) : List UInt8 := [UInt8.ofNat side, UInt8.ofNat (n >>> 24), UInt8.ofNat (n >>> 16), UInt8.ofNat (n >>> 8), UInt8.ofNat n] ++ List.replicate 27 0

/-- A book. -/
structure BookA where
  session : Int
  decided : Int
  epoch : Int
  dir : List HdT
  up : List Bool
  commit : List Int
def flagI (b : Bool) : Int := if b = true then 1 else 0
def bookB (k : BookA) : List UInt8 := putB [k.session, k.decided, k.epoch] ++ (putB [(k.dir.length : Int)] ++ headsB k.dir) ++ putB [(k.up.length : Int)] ++ putB (k.up.map flagI) ++ (putB [(k.commit.length : Int)] ++ putB k.commit)
def book0 (n : Nat) : BookA := ⟨0, 0, 0, [], List.replicate n true, List.replicate n 0⟩
/-- A book that has bytes, and not too many. -/
structure BookFit (n : Nat) (k : BookA) : Prop where
  session : 0 ≤ k.session ∧ k.session ≤ 1073741824
  decided : 0 ≤ k.decided ∧ k.decided ≤ 1073741824
  epoch : 0 ≤ k.epoch ∧ k.epoch ≤ 1048576
  dir : k.dir.length ≤ 8
  each : ∀ h ∈ k.dir, 1 ≤ h.1.length ∧ h.1.length ≤ 16 ∧ 0 ≤ h.2 ∧ h.2 ≤ 256
  up : k.up.length = n
  commit : k.commit.length = n
  com : ∀ c ∈ k.commit, 0 ≤ c ∧ c ≤ 1073741824
end Go.Proofs.Ytaikdcnifijcoaa
