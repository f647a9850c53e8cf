/-
  The document's answers of layers 1 and 2, plain: what they compute is what the program computes.
-/
import Derived.Test.YtccgbgjhjpllcaaVDivP
set_option linter.unusedSimpArgs false
namespace Go.Gf
/-- A product, bit by bit: the first loop. -/
def rm1 (a b : Nat) : Nat → Nat
  | 0 => 0
  | i + 1 => if (b >>> i) &&& 1 = 1 then rm1 a b i ^^^ (a <<< i) else rm1 a b i
/-- The second loop. -/
def rm2 (p : Nat) : Nat → Nat
  | 0 => p
  | k + 1 => if (rm2 p k >>> (14 - k)) &&& 1 = 1 then rm2 p k ^^^ (283 <<< (14 - k - 8)) else rm2 p k
def rmul (a b : UInt8) : UInt8 := UInt8.ofNat (rm2 (rm1 a.toNat b.toNat 8) 7)
theorem shl_lt {a i : Nat} (ha : a < 256) (hi : i < 8) : a <<< i < 32768 := by
  rw [Nat.shiftLeft_eq]
  have h1 : 2 ^ i ≤ 2 ^ 7 := Nat.pow_le_pow_right (by decide) (by omega)
  have h2 : a * 2 ^ i ≤ 255 * 2 ^ 7 := Nat.mul_le_mul (by omega) h1
  omega
theorem xor_lt15 {a b : Nat} (ha : a < 32768) (hb : b < 32768) : a ^^^ b < 32768 := Nat.xor_lt_two_pow (n := 15) ha hb
theorem rm1_lt {a b : Nat} (ha : a < 256) : ∀ i, i ≤ 8 → rm1 a b i < 32768
  | 0, _ => by simp [rm1]
  | i + 1, h => by
    rw [rm1]
    split
    · exact xor_lt15 (rm1_lt ha i (by omega)) (shl_lt ha (by omega))
    · exact rm1_lt ha i (by omega)
theorem shl283_lt {i : Nat} (hi : i ≤ 6) : 283 <<< i < 32768 := by
  rw [Nat.shiftLeft_eq]
  have h1 : 2 ^ i ≤ 2 ^ 6 := Nat.pow_le_pow_right (by decide) hi
  omega
theorem rm2_lt {p : Nat} (hp : p < 32768) : ∀ k, rm2 p k < 32768
  | 0 => hp
  | k + 1 => by
    rw [rm2]
    split
    · exact xor_lt15 (rm2_lt hp k) (shl283_lt (by omega))
    · exact rm2_lt hp k
theorem bit_iff (x i : Nat) : (x >>> i) &&& 1 = 1 ↔ x.testBit i = true := by
  rw [Nat.testBit, Nat.and_comm, Nat.one_and_eq_mod_two]
  simp
theorem rm1_xor (a a' b : Nat) : ∀ i, rm1 (a ^^^ a') b i = rm1 a b i ^^^ rm1 a' b i
  | 0 => by simp [rm1]
  | i + 1 => by
    simp only [rm1, rm1_xor a a' b i]
    split
    · rw [Nat.shiftLeft_xor_distrib]
      rw [Nat.xor_assoc, Nat.xor_assoc, ← Nat.xor_assoc (rm1 a' b i), ← Nat.xor_assoc (a <<< i), Nat.xor_comm (rm1 a' b i)]
    · rfl
theorem rm2_xor (p q : Nat) : ∀ k, rm2 (p ^^^ q) k = rm2 p k ^^^ rm2 q k
  | 0 => rfl
  | k + 1 => by
    simp only [rm2, rm2_xor p q k, bit_iff, Nat.testBit_xor]
    generalize rm2 p k = x
    generalize rm2 q k = y
    generalize 283 <<< (14 - k - 8) = z
    cases x.testBit (14 - k) <;> cases y.testBit (14 - k) <;> simp
    · rw [Nat.xor_assoc]
    · rw [Nat.xor_assoc, Nat.xor_assoc, Nat.xor_comm y z]
    · rw [Nat.xor_assoc, ← Nat.xor_assoc z, Nat.xor_comm z y, Nat.xor_assoc y, Nat.xor_self, Nat.xor_zero]
theorem ofNat_xor (m n : Nat) : UInt8.ofNat (m ^^^ n) = UInt8.ofNat m ^^^ UInt8.ofNat n := by
  apply UInt8.toNat_inj.1
  simp only [UInt8.toNat_xor, UInt8.toNat_ofNat']
  apply Nat.eq_of_testBit_eq
  intro i
  simp only [Nat.testBit_mod_two_pow, Nat.testBit_xor]
  by_cases h : i < 8 <;> simp [h]
theorem rmul_xor (a a' b : UInt8) : rmul (a ^^^ a') b = rmul a b ^^^ rmul a' b := by
  unfold rmul
  rw [UInt8.toNat_xor, rm1_xor, rm2_xor, ofNat_xor]
set_option maxRecDepth 100000 in
theorem rmul_pow_all : ∀ b : Fin 256, ∀ i : Fin 9, rmul (UInt8.ofNat (2 ^ i.val)) (UInt8.ofNat b.val) = gmul (UInt8.ofNat (2 ^ i.val)) (UInt8.ofNat b.val) := by decide +kernel
set_option maxRecDepth 100000 in
theorem bits_all : ∀ n : Fin 256, UInt8.ofNat n.val = ((List.range 8).map fun i => UInt8.ofNat (if n.val.testBit i then 2 ^ i else 256)).foldr (· ^^^ ·) 0 := by decide +kernel
theorem foldr_xor_mem {p : UInt8 → Prop} (h0 : p 0) (hx : ∀ a b, p a → p b → p (a ^^^ b)) : ∀ l : List UInt8, (∀ a ∈ l, p a) → p (l.foldr (· ^^^ ·) 0)
  | [], _ => h0
  | a :: r, h => hx _ _ (h a List.mem_cons_self) (foldr_xor_mem h0 hx r fun b hb => h b (List.mem_cons_of_mem _ hb))
theorem u8_span {p : UInt8 → Prop} (hx : ∀ a b, p a → p b → p (a ^^^ b)) (hp : ∀ i : Fin 9, p (UInt8.ofNat (2 ^ i.val))) (a : UInt8) : p a := by
  refine u8_all (p := p) (fun n => ?_) a
  rw [bits_all n]
  refine foldr_xor_mem ((show UInt8.ofNat (2 ^ (8 : Fin 9).val) = 0 from by decide) ▸ hp 8) hx _ fun b hb => ?_
  obtain ⟨i, hi, rfl⟩ := List.mem_map.1 hb
  have hi' : i < 8 := by simpa using hi
  split
  · exact hp ⟨i, by omega⟩
  · exact hp 8
theorem rmul_eq (a b : UInt8) : rmul a b = gmul a b := by
  refine u8_span (p := fun a => rmul a b = gmul a b) (fun a a' h h' => ?_) (fun i => ?_) a
  · rw [rmul_xor, xor_gmul, h, h']
  · exact u8_all (p := fun b => rmul (UInt8.ofNat (2 ^ i.val)) b = gmul (UInt8.ofNat (2 ^ i.val)) b) (fun n => rmul_pow_all n i) b
/-- Values, as sums of powers. -/
def ppow (x : UInt8) : Nat → UInt8
  | 0 => 1
  | k + 1 => gmul (ppow x k) x
def psum (l : List UInt8) (x : UInt8) : Nat → UInt8
  | 0 => 0
  | k + 1 => psum l x k ^^^ gmul (l.getD k 0) (ppow x k)
theorem psum_cons (c : UInt8) (r : List UInt8) (x : UInt8) : ∀ k, psum (c :: r) x (k + 1) = gmul (psum r x k) x ^^^ c
  | 0 => by simp [psum, ppow, gmul_one, zero_gmul]
  | k + 1 => by
    rw [psum, psum_cons c r x k]
    simp only [psum, ppow, List.getD_cons_succ]
    rw [xor_gmul, gmul_assoc]
    rw [UInt8.xor_assoc, UInt8.xor_assoc, UInt8.xor_comm c]
theorem hor_psum (x : UInt8) : ∀ l : List UInt8, psum l x l.length = hor x l
  | [] => rfl
  | c :: r => by
    rw [List.length_cons, psum_cons, hor_psum x r]
    rfl
theorem mk_succ (n : Nat) (f : Nat → UInt8) : mk (n + 1) f = mk n f ++ [f n] := by simp [mk, List.range_succ]
/-- The sum of polynomials through points, as the document says it. -/
def rothers (xs : List UInt8) (k : Nat) : List UInt8 := roots gmul (xs.take k ++ xs.drop (k + 1))
def rthrN (xs ys : List UInt8) : Nat → List UInt8
  | 0 => []
  | k + 1 => tl (xadd (rthrN xs ys k) (tl (conv gmul (rothers xs k) [gmul (ys.getD k 0) (ginv (hor (xs.getD k 0) (rothers xs k)))])))
/-- At how many of the first k points has a polynomial the value? -/
def agN (p xs ys : List UInt8) : Nat → Nat
  | 0 => 0
  | k + 1 => if hor (xs.getD k 0) p = ys.getD k 0 then agN p xs ys k + 1 else agN p xs ys k
theorem agN_le (p xs ys : List UInt8) : ∀ k, agN p xs ys k ≤ k
  | 0 => Nat.le_refl _
  | k + 1 => by
    rw [agN]
    have := agN_le p xs ys k
    split <;> omega
/-- All points are unlike. -/
def unlike (xs : List UInt8) : Prop := ∀ i, i < xs.length → ∀ j, j < i → xs.getD i 0 ≠ xs.getD j 0
theorem rothers_length {xs : List UInt8} {k : Nat} (hk : k < xs.length) : (rothers xs k).length ≤ 2 * xs.length := by
  have := rootsN_length gmul (xs.take k ++ xs.drop (k + 1)) (xs.take k ++ xs.drop (k + 1)).length
  unfold rothers roots
  simp only [List.length_append, List.length_take, List.length_drop] at this ⊢
  omega
theorem rthrN_length (xs ys : List UInt8) : ∀ k, k ≤ xs.length → (rthrN xs ys k).length ≤ 2 * xs.length + 2
  | 0, _ => by simp [rthrN]
  | k + 1, hk => by
    have h1 := tl_le (xadd (rthrN xs ys k) (tl (conv gmul (rothers xs k) [gmul (ys.getD k 0) (ginv (hor (xs.getD k 0) (rothers xs k)))])))
    have h2 := tl_le (conv gmul (rothers xs k) [gmul (ys.getD k 0) (ginv (hor (xs.getD k 0) (rothers xs k)))])
    have h3 := rthrN_length xs ys k (by omega)
    have h4 := rothers_length (xs := xs) (k := k) (by omega)
    rw [xadd_length] at h1
    rw [conv_length] at h2
    simp only [List.length_cons, List.length_nil] at h2
    rw [rthrN]
    omega
theorem tl_rthrN (xs ys : List UInt8) (k : Nat) : tl (rthrN xs ys k) = rthrN xs ys k := by
  cases k with
  | zero => rfl
  | succ k => rw [rthrN, tl_tl]
end Go.Gf
