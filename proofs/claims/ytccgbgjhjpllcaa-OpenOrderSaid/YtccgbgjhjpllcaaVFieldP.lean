/-
  The field's laws, plain.
-/
import Derived.Test.YtccgbgjhjpllcaaVGfP
set_option linter.unusedSimpArgs false
namespace Go.Gf
theorem u8_all {p : UInt8 → Prop} (h : ∀ n : Fin 256, p (UInt8.ofNat n.val)) (a : UInt8) : p a := by
  have := h ⟨a.toNat, a.toNat_lt⟩
  rwa [ofNat_toNat] at this
theorem xor_self (a : UInt8) : a ^^^ a = 0 := UInt8.xor_self
theorem xor_zero (a : UInt8) : a ^^^ 0 = a := UInt8.xor_zero
theorem zero_xor (a : UInt8) : 0 ^^^ a = a := UInt8.zero_xor
theorem xor_cancel {a b : UInt8} (h : a ^^^ b = 0) : a = b := by
  have : (a ^^^ b) ^^^ b = 0 ^^^ b := by rw [h]
  rwa [UInt8.xor_assoc, UInt8.xor_self, UInt8.xor_zero, UInt8.zero_xor] at this
theorem xor_eq_zero {a b : UInt8} : a ^^^ b = 0 ↔ a = b := ⟨xor_cancel, fun h => by rw [h, UInt8.xor_self]⟩
theorem gexp_ne (n : Nat) : gexp n ≠ 0 := pw_ne (Nat.mod_lt _ (by decide))
theorem log_gexp (n : Nat) : glog (gexp n) = n % 255 := log_pw (Nat.mod_lt _ (by decide))
theorem gexp_log {a : UInt8} (h : a ≠ 0) : gexp (glog a) = a := by rw [gexp_lt (glog_lt a), pw_log h]
theorem gexp_mod (n : Nat) : gexp (n % 255) = gexp n := by unfold gexp; rw [Nat.mod_mod]
theorem gexp_congr {m n : Nat} (h : m % 255 = n % 255) : gexp m = gexp n := by unfold gexp; rw [h]
theorem gexp_zero : gexp 0 = 1 := rfl
theorem gmul_gexp (m n : Nat) : gmul (gexp m) (gexp n) = gexp (m + n) := by
  unfold gmul
  rw [if_neg (by simp [gexp_ne]), log_gexp, log_gexp]
  exact gexp_congr (by omega)
theorem gmul_zero (a : UInt8) : gmul a 0 = 0 := by simp [gmul]
theorem zero_gmul (a : UInt8) : gmul 0 a = 0 := by simp [gmul]
theorem gmul_comm (a b : UInt8) : gmul a b = gmul b a := by
  unfold gmul
  rw [Nat.add_comm]
  by_cases h1 : a = 0 <;> by_cases h2 : b = 0 <;> simp [h1, h2]
theorem gmul_one (a : UInt8) : gmul a 1 = a := by
  by_cases h : a = 0
  · subst h; exact zero_gmul _
  · rw [← gexp_log h, ← gexp_zero, gmul_gexp]; rfl
theorem one_gmul (a : UInt8) : gmul 1 a = a := by rw [gmul_comm, gmul_one]
theorem gmul_ne {a b : UInt8} (ha : a ≠ 0) (hb : b ≠ 0) : gmul a b ≠ 0 := by
  rw [← gexp_log ha, ← gexp_log hb, gmul_gexp]; exact gexp_ne _
theorem gmul_eq_zero {a b : UInt8} : gmul a b = 0 ↔ a = 0 ∨ b = 0 := by
  refine ⟨fun h => ?_, ?_⟩
  · by_cases ha : a = 0
    · exact .inl ha
    · by_cases hb : b = 0
      · exact .inr hb
      · exact absurd h (gmul_ne ha hb)
  · rintro (rfl | rfl)
    · exact zero_gmul _
    · exact gmul_zero _
theorem gmul_assoc (a b c : UInt8) : gmul (gmul a b) c = gmul a (gmul b c) := by
  by_cases ha : a = 0
  · subst ha; simp [zero_gmul]
  by_cases hb : b = 0
  · subst hb; simp [zero_gmul, gmul_zero]
  by_cases hc : c = 0
  · subst hc; simp [gmul_zero]
  rw [← gexp_log ha, ← gexp_log hb, ← gexp_log hc]
  simp only [gmul_gexp]
  rw [Nat.add_assoc]
theorem ginv_ne {a : UInt8} (h : a ≠ 0) : ginv a ≠ 0 := by unfold ginv; rw [if_neg h]; exact gexp_ne _
theorem gmul_inv {a : UInt8} (h : a ≠ 0) : gmul a (ginv a) = 1 := by
  unfold ginv
  rw [if_neg h]
  have hl := glog_lt a
  have : gmul (gexp (glog a)) (gexp (255 - glog a)) = 1 := by
    rw [gmul_gexp, ← gexp_zero]
    exact gexp_congr (by omega)
  rwa [gexp_log h] at this
theorem inv_gmul {a : UInt8} (h : a ≠ 0) : gmul (ginv a) a = 1 := by rw [gmul_comm, gmul_inv h]
theorem gmul_cancel {a b c : UInt8} (h : a ≠ 0) (e : gmul a b = gmul a c) : b = c := by
  have : gmul (ginv a) (gmul a b) = gmul (ginv a) (gmul a c) := by rw [e]
  rwa [← gmul_assoc, ← gmul_assoc, inv_gmul h, one_gmul, one_gmul] at this
theorem div_gmul {a b : UInt8} (h : b ≠ 0) : gmul (gmul a (ginv b)) b = a := by rw [gmul_assoc, inv_gmul h, gmul_one]
set_option maxRecDepth 100000 in
theorem top_bit_all : ∀ a : Fin 256, (128 ≤ UInt8.ofNat a.val) = ((UInt8.ofNat a.val).toNat.testBit 7 = true) := by decide +kernel
theorem top_bit (a : UInt8) : (128 ≤ a) = (a.toNat.testBit 7 = true) := u8_all (p := fun a => (128 ≤ a) = (a.toNat.testBit 7 = true)) top_bit_all a
theorem shl_xor (a b : UInt8) : (a ^^^ b) <<< UInt8.ofNat 1 = (a <<< UInt8.ofNat 1) ^^^ (b <<< UInt8.ofNat 1) := by
  apply UInt8.toNat_inj.1
  simp only [UInt8.toNat_shiftLeft, UInt8.toNat_xor]
  apply Nat.eq_of_testBit_eq
  intro i
  simp only [Nat.testBit_mod_two_pow, Nat.testBit_shiftLeft, Nat.testBit_xor]
  by_cases h : i < 8 <;> simp [h]
  by_cases h1 : 1 ≤ i <;> simp [h1]
theorem dbl_xor (a b : UInt8) : dbl (a ^^^ b) = dbl a ^^^ dbl b := by
  unfold dbl
  simp only [top_bit, UInt8.toNat_xor, Nat.testBit_xor, shl_xor]
  generalize a <<< UInt8.ofNat 1 = p
  generalize b <<< UInt8.ofNat 1 = q
  cases a.toNat.testBit 7 <;> cases b.toNat.testBit 7 <;> simp
  · rw [UInt8.xor_assoc]
  · rw [UInt8.xor_assoc, UInt8.xor_assoc, UInt8.xor_comm 27 q]
  · have : (p ^^^ 27) ^^^ (q ^^^ 27) = (p ^^^ q) ^^^ (27 ^^^ 27) := by
      rw [UInt8.xor_assoc, ← UInt8.xor_assoc 27, UInt8.xor_comm 27 q, UInt8.xor_assoc q, ← UInt8.xor_assoc]
    rw [this]; simp
/-- Times the base. -/
def tb (a : UInt8) : UInt8 := a ^^^ dbl a
theorem xor4 (a b c d : UInt8) : (a ^^^ b) ^^^ (c ^^^ d) = (a ^^^ c) ^^^ (b ^^^ d) := by
  rw [UInt8.xor_assoc, UInt8.xor_assoc, ← UInt8.xor_assoc b, ← UInt8.xor_assoc c, UInt8.xor_comm b c]
theorem tb_xor (a b : UInt8) : tb (a ^^^ b) = tb a ^^^ tb b := by
  unfold tb
  rw [dbl_xor, xor4]
theorem tb_gexp (n : Nat) : tb (gexp n) = gexp (n + 1) := by
  have h : n % 255 < 255 := Nat.mod_lt _ (by decide)
  have := gexp_succ h
  rw [gexp_mod] at this
  rw [tb, ← this]
  exact gexp_congr (by omega)
def tbN : Nat → UInt8 → UInt8
  | 0, a => a
  | n + 1, a => tb (tbN n a)
theorem tbN_xor : ∀ (n : Nat) (a b : UInt8), tbN n (a ^^^ b) = tbN n a ^^^ tbN n b
  | 0, _, _ => rfl
  | n + 1, a, b => by simp only [tbN, tbN_xor n a b, tb_xor]
theorem tbN_gexp : ∀ n m : Nat, tbN n (gexp m) = gexp (n + m)
  | 0, m => by rw [Nat.zero_add]; rfl
  | n + 1, m => by
    simp only [tbN, tbN_gexp n m, tb_gexp]
    exact gexp_congr (by omega)
theorem tbN_zero : ∀ n : Nat, tbN n 0 = 0
  | 0 => rfl
  | n + 1 => by simp only [tbN, tbN_zero n]; rfl
theorem gmul_tbN (n : Nat) (b : UInt8) : gmul (gexp n) b = tbN n b := by
  by_cases h : b = 0
  · subst h; rw [gmul_zero, tbN_zero]
  · rw [← gexp_log h, gmul_gexp, tbN_gexp]
theorem gmul_xor (a b c : UInt8) : gmul a (b ^^^ c) = gmul a b ^^^ gmul a c := by
  by_cases h : a = 0
  · subst h; simp only [zero_gmul]; rfl
  · rw [← gexp_log h]
    simp only [gmul_tbN, tbN_xor]
theorem xor_gmul (a b c : UInt8) : gmul (a ^^^ b) c = gmul a c ^^^ gmul b c := by
  rw [gmul_comm, gmul_xor, gmul_comm c a, gmul_comm c b]
end Go.Gf
