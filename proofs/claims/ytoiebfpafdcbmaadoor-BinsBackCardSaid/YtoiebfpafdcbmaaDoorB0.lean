/- Numbers: what the bit operations do to numbers that are not below nought. No program in sight. -/
import Derived.Test.YtoiebfpafdcbmaaDoorKa
namespace Go.Proofs.YtoiebfpafdcbmaaDoor
open Go Go.RowKit K
set_option linter.unusedVariables false
set_option linter.unusedSimpArgs false

theorem ofInt_toNat {p : Int} (h : 0 ≤ p ∧ p < 2 ^ 63) : (BitVec.ofInt 64 p).toNat = p.toNat := by
  rw [BitVec.toNat_ofInt]
  have : p % ((2 ^ 64 : Nat) : Int) = p := Int.emod_eq_of_lt h.1 (by have := h.2; simp at this ⊢; omega)
  rw [this]
theorem wrap_nat {n : Nat} (h : n < 2 ^ 63) : IntKind.i64.wrap (n : Int) = n := by rw [IntKind.wrap_i64]; have : (n : Int) < 2 ^ 63 := by exact_mod_cast h
                                                                                   omega
theorem and_i64 {p q : Int} (hp : 0 ≤ p ∧ p < 2 ^ 63) (hq : 0 ≤ q ∧ q < 2 ^ 63) :
    IntKind.i64.wrap ((BitVec.ofInt IntKind.i64.bits p &&& BitVec.ofInt IntKind.i64.bits q).toNat : Int) = ((p.toNat &&& q.toNat : Nat) : Int) := by
  show IntKind.i64.wrap ((BitVec.ofInt 64 p &&& BitVec.ofInt 64 q).toNat : Int) = _
  rw [BitVec.toNat_and, ofInt_toNat hp, ofInt_toNat hq]
  exact wrap_nat (Nat.lt_of_le_of_lt Nat.and_le_left (by omega))
theorem xor_i64 {p q : Int} (hp : 0 ≤ p ∧ p < 2 ^ 63) (hq : 0 ≤ q ∧ q < 2 ^ 63) :
    IntKind.i64.wrap ((BitVec.ofInt IntKind.i64.bits p ^^^ BitVec.ofInt IntKind.i64.bits q).toNat : Int) = ((p.toNat ^^^ q.toNat : Nat) : Int) := by
  show IntKind.i64.wrap ((BitVec.ofInt 64 p ^^^ BitVec.ofInt 64 q).toNat : Int) = _
  rw [BitVec.toNat_xor, ofInt_toNat hp, ofInt_toNat hq]
  exact wrap_nat (Nat.xor_lt_two_pow (by omega) (by omega))
theorem or_i64 {p q : Int} (hp : 0 ≤ p ∧ p < 2 ^ 63) (hq : 0 ≤ q ∧ q < 2 ^ 63) :
    IntKind.i64.wrap ((BitVec.ofInt IntKind.i64.bits p ||| BitVec.ofInt IntKind.i64.bits q).toNat : Int) = ((p.toNat ||| q.toNat : Nat) : Int) := by
  show IntKind.i64.wrap ((BitVec.ofInt 64 p ||| BitVec.ofInt 64 q).toNat : Int) = _
  rw [BitVec.toNat_or, ofInt_toNat hp, ofInt_toNat hq]
  exact wrap_nat (Nat.or_lt_two_pow (by omega) (by omega))
/-- The lowest k bits. -/
theorem mask_i64 {p : Int} (k : Nat) (hp : 0 ≤ p ∧ p < 2 ^ 63) (hk : k < 63) :
    IntKind.i64.wrap ((BitVec.ofInt IntKind.i64.bits p &&& BitVec.ofInt IntKind.i64.bits ((2 ^ k - 1 : Nat) : Int)).toNat : Int) = p % ((2 ^ k : Nat) : Int) := by
  have h2 : (2 : Nat) ^ k ≤ 2 ^ 62 := Nat.pow_le_pow_right (by omega) (by omega)
  have h3 : 0 < (2 : Nat) ^ k := Nat.two_pow_pos k
  rw [and_i64 hp (by constructor <;> omega), Int.toNat_natCast, Nat.and_two_pow_sub_one_eq_mod]
  have : ((p.toNat % 2 ^ k : Nat) : Int) = (p.toNat : Int) % ((2 ^ k : Nat) : Int) := by simp
  rw [this, Int.toNat_of_nonneg hp.1]
theorem nat_and_pow (k : Nat) : ∀ n : Nat, n &&& 2 ^ k = if n / 2 ^ k % 2 = 1 then 2 ^ k else 0 := by
  induction k with
  | zero =>
    intro n
    rw [Nat.pow_zero, Nat.and_one_is_mod, Nat.div_one]
    split <;> omega
  | succ k ih =>
    intro n
    have h1 := Nat.and_div_two (a := n) (b := 2 ^ (k + 1))
    have h2 := Nat.and_mod_two_eq_one (a := n) (b := 2 ^ (k + 1))
    have e : (2 : Nat) ^ (k + 1) = 2 * 2 ^ k := by rw [Nat.pow_succ, Nat.mul_comm]
    have e2 : (2 : Nat) ^ (k + 1) / 2 = 2 ^ k := by omega
    rw [e2, ih (n / 2), Nat.div_div_eq_div_mul, ← e] at h1
    split at h1 <;> rename_i hc
    · rw [if_pos hc]; omega
    · rw [if_neg hc]; omega
theorem nat_xor_pow (k : Nat) : ∀ n : Nat, n ^^^ 2 ^ k = if n / 2 ^ k % 2 = 1 then n - 2 ^ k else n + 2 ^ k := by
  induction k with
  | zero =>
    intro n
    have h1 := Nat.xor_div_two (a := n) (b := 1)
    have h2 := Nat.xor_mod_two_eq_one (a := n) (b := 1)
    rw [show (1 : Nat) / 2 = 0 from rfl, Nat.xor_zero] at h1
    rw [Nat.pow_zero, Nat.div_one]
    generalize n ^^^ 1 = m at *
    split <;> omega
  | succ k ih =>
    intro n
    have h1 := Nat.xor_div_two (a := n) (b := 2 ^ (k + 1))
    have h2 := Nat.xor_mod_two_eq_one (a := n) (b := 2 ^ (k + 1))
    have e : (2 : Nat) ^ (k + 1) = 2 * 2 ^ k := by rw [Nat.pow_succ, Nat.mul_comm]
    have e2 : (2 : Nat) ^ (k + 1) / 2 = 2 ^ k := by omega
    have hle : n / 2 ^ (k + 1) % 2 = 1 → 2 ^ k ≤ n / 2 := by
      intro h
      have h0 : 0 < n / 2 ^ (k + 1) := Nat.pos_of_ne_zero (fun e => by rw [e] at h; cases h)
      have := (Nat.div_pos_iff.1 h0).2
      rw [e] at this
      generalize (2 : Nat) ^ k = m at *
      omega
    rw [e2, ih (n / 2), Nat.div_div_eq_div_mul, ← e] at h1
    split at h1 <;> rename_i hc
    · rw [if_pos hc]; have := hle hc; omega
    · rw [if_neg hc]; omega
theorem pow_int (k : Nat) (hk : k < 63) : (0 : Int) ≤ ((2 ^ k : Nat) : Int) ∧ ((2 ^ k : Nat) : Int) < 2 ^ 63 := by
  have h2 : (2 : Nat) ^ k ≤ 2 ^ 62 := Nat.pow_le_pow_right (by omega) (by omega)
  generalize (2 : Nat) ^ k = m at *
  omega
theorem div_mod_nat {p : Int} (k : Nat) (hp : 0 ≤ p) : p / ((2 ^ k : Nat) : Int) % 2 = ((p.toNat / 2 ^ k % 2 : Nat) : Int) := by
  have hp' : p = (p.toNat : Int) := (Int.toNat_of_nonneg hp).symm
  conv => lhs; rw [hp']
  simp
/-- One bit. -/
theorem bit_i64 {p : Int} (k : Nat) (hp : 0 ≤ p ∧ p < 2 ^ 63) (hk : k < 63) :
    IntKind.i64.wrap ((BitVec.ofInt IntKind.i64.bits p &&& BitVec.ofInt IntKind.i64.bits ((2 ^ k : Nat) : Int)).toNat : Int) = if p / ((2 ^ k : Nat) : Int) % 2 = 1 then ((2 ^ k : Nat) : Int) else 0 := by
  rw [and_i64 hp (pow_int k hk), Int.toNat_natCast, nat_and_pow, div_mod_nat k hp.1]
  by_cases h : p.toNat / 2 ^ k % 2 = 1
  · simp [h]
  · have h' : ¬ (((p.toNat / 2 ^ k % 2 : Nat) : Int) = 1) := by omega
    rw [if_neg h, if_neg h']; rfl
/-- A power of two is set, or taken away. -/
theorem xor_pow {p : Int} (k : Nat) (hp : 0 ≤ p ∧ p < 2 ^ 63) (hk : k < 63) :
    IntKind.i64.wrap ((BitVec.ofInt IntKind.i64.bits p ^^^ BitVec.ofInt IntKind.i64.bits ((2 ^ k : Nat) : Int)).toNat : Int) = if p / ((2 ^ k : Nat) : Int) % 2 = 1 then p - ((2 ^ k : Nat) : Int) else p + ((2 ^ k : Nat) : Int) := by
  rw [xor_i64 hp (pow_int k hk), Int.toNat_natCast, nat_xor_pow, div_mod_nat k hp.1]
  by_cases h : p.toNat / 2 ^ k % 2 = 1
  · have hle : 2 ^ k ≤ p.toNat := by
      have h0 : 0 < p.toNat / 2 ^ k := Nat.pos_of_ne_zero (fun e => by rw [e] at h; cases h)
      exact (Nat.div_pos_iff.1 h0).2
    simp only [h, if_true, Int.natCast_one]
    generalize (2 : Nat) ^ k = m at *
    omega
  · have h' : ¬ (((p.toNat / 2 ^ k % 2 : Nat) : Int) = 1) := by omega
    rw [if_neg h, if_neg h']
    generalize (2 : Nat) ^ k = m at *
    omega
/-- Do two numbers part at a bit? -/
theorem part_i64 {p q : Int} (k : Nat) (hp : 0 ≤ p ∧ p < 2 ^ 63) (hq : 0 ≤ q ∧ q < 2 ^ 63) (hk : k < 63) :
    (IntKind.i64.wrap ((BitVec.ofInt IntKind.i64.bits (IntKind.i64.wrap ((BitVec.ofInt IntKind.i64.bits p ^^^ BitVec.ofInt IntKind.i64.bits q).toNat : Int)) &&& BitVec.ofInt IntKind.i64.bits ((2 ^ k : Nat) : Int)).toNat : Int) ≠ 0) ↔
      p / ((2 ^ k : Nat) : Int) % 2 ≠ q / ((2 ^ k : Nat) : Int) % 2 := by
  rw [xor_i64 hp hq]
  have hx : p.toNat ^^^ q.toNat < 2 ^ 63 := Nat.xor_lt_two_pow (by omega) (by omega)
  rw [bit_i64 k (by constructor <;> omega) hk, div_mod_nat k hp.1, div_mod_nat k hq.1, div_mod_nat k (by omega), Int.toNat_natCast]
  have hd : ∀ a b : Nat, (a ^^^ b) / 2 ^ k = a / 2 ^ k ^^^ b / 2 ^ k := by
    intro a b
    have := @Nat.shiftRight_xor_distrib k a b
    simpa [Nat.shiftRight_eq_div_pow] using this
  rw [hd]
  have := Nat.xor_mod_two_eq_one (a := p.toNat / 2 ^ k) (b := q.toNat / 2 ^ k)
  have h0 : ((2 ^ k : Nat) : Int) ≠ 0 := by have := Nat.two_pow_pos k; omega
  by_cases h : (p.toNat / 2 ^ k ^^^ q.toNat / 2 ^ k) % 2 = 1
  · have h2 : ((((p.toNat / 2 ^ k ^^^ q.toNat / 2 ^ k) % 2 : Nat) : Int) = 1) := by omega
    rw [if_pos h2]
    constructor
    · intro _; omega
    · intro _; exact h0
  · have h2 : ¬ ((((p.toNat / 2 ^ k ^^^ q.toNat / 2 ^ k) % 2 : Nat) : Int) = 1) := by omega
    rw [if_neg h2]
    constructor
    · intro h; exact absurd rfl h
    · intro h; exfalso; omega
end Go.Proofs.YtoiebfpafdcbmaaDoor
