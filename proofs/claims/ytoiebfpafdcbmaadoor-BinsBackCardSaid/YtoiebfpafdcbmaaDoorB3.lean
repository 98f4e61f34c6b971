/- Bits in bytes, the greatest of each byte first: plain lists and numbers. -/
import Derived.Test.YtoiebfpafdcbmaaDoorB0
namespace Go.Proofs.YtoiebfpafdcbmaaDoor
open Go Go.RowKit K
set_option linter.unusedVariables false
set_option linter.unusedSimpArgs false

def bitI (bs : List Bool) (k : Nat) : Int := if bs.getD k false then 1 else 0
/-- Byte i of the bits. -/
def byteAt (bs : List Bool) (i : Nat) : Int :=
  128 * bitI bs (8 * i) + 64 * bitI bs (8 * i + 1) + 32 * bitI bs (8 * i + 2) + 16 * bitI bs (8 * i + 3) + 8 * bitI bs (8 * i + 4) + 4 * bitI bs (8 * i + 5) + 2 * bitI bs (8 * i + 6) + bitI bs (8 * i + 7)
def pack (bs : List Bool) : List Int := (List.range ((bs.length + 7) / 8)).map (byteAt bs)
/-- Bit k of bytes; noughts behind them. -/
def bitOf (l : List Int) (k : Nat) : Bool := decide (l.getD (k / 8) 0 / 2 ^ (7 - k % 8) % 2 = 1)

theorem bitI_01 (bs : List Bool) (k : Nat) : 0 ≤ bitI bs k ∧ bitI bs k ≤ 1 := by unfold bitI; split <;> omega
theorem byteAt_range (bs : List Bool) (i : Nat) : 0 ≤ byteAt bs i ∧ byteAt bs i < 256 := by
  unfold byteAt
  have h0 := bitI_01 bs (8 * i); have h1 := bitI_01 bs (8 * i + 1); have h2 := bitI_01 bs (8 * i + 2); have h3 := bitI_01 bs (8 * i + 3)
  have h4 := bitI_01 bs (8 * i + 4); have h5 := bitI_01 bs (8 * i + 5); have h6 := bitI_01 bs (8 * i + 6); have h7 := bitI_01 bs (8 * i + 7)
  omega
theorem pack_length (bs : List Bool) : (pack bs).length = (bs.length + 7) / 8 := by simp [pack]
theorem bitI_out {bs : List Bool} {k : Nat} (h : bs.length ≤ k) : bitI bs k = 0 := by
  unfold bitI; simp [List.getD, List.getElem?_eq_none h]
theorem bitI_snoc (bs : List Bool) (b : Bool) (k : Nat) : bitI (bs ++ [b]) k = if k = bs.length then (if b then 1 else 0) else bitI bs k := by
  unfold bitI
  by_cases h : k < bs.length
  · have hne : ¬ k = bs.length := by omega
    rw [if_neg hne]
    simp only [List.getD, List.getElem?_append_left h]
    rfl
  · by_cases h' : k = bs.length
    · subst h'; simp [List.getD]
    · rw [if_neg h']
      have h1 : (bs ++ [b])[k]? = none := List.getElem?_eq_none (by simp; omega)
      have h2 : bs[k]? = none := List.getElem?_eq_none (by omega)
      simp [List.getD, h1, h2]

theorem byteAt_snoc_old (bs : List Bool) (b : Bool) {i : Nat} (h : i ≠ bs.length / 8) : byteAt (bs ++ [b]) i = byteAt bs i := by
  unfold byteAt
  simp only [bitI_snoc]
  rw [if_neg (by omega), if_neg (by omega), if_neg (by omega), if_neg (by omega), if_neg (by omega), if_neg (by omega), if_neg (by omega), if_neg (by omega)]

theorem byteAt_snoc_new (bs : List Bool) (b : Bool) : byteAt (bs ++ [b]) (bs.length / 8) = byteAt bs (bs.length / 8) + (if b then 1 else 0) * 2 ^ (7 - bs.length % 8) ∧ byteAt bs (bs.length / 8) / 2 ^ (7 - bs.length % 8) % 2 = 0 := by
  have hsn : ∀ j, bitI (bs ++ [b]) (8 * (bs.length / 8) + j) = if j = bs.length % 8 then (if b then 1 else 0) else bitI bs (8 * (bs.length / 8) + j) := fun j => by
    rw [bitI_snoc]
    by_cases h : j = bs.length % 8
    · rw [if_pos h, if_pos (by omega)]
    · rw [if_neg h, if_neg (by omega)]
  have hout : ∀ j, bs.length % 8 ≤ j → bitI bs (8 * (bs.length / 8) + j) = 0 := fun j hj => bitI_out (by omega)
  have hr : bs.length % 8 < 8 := Nat.mod_lt _ (by omega)
  have s0 := hsn 0; have s1 := hsn 1; have s2 := hsn 2; have s3 := hsn 3; have s4 := hsn 4; have s5 := hsn 5; have s6 := hsn 6; have s7 := hsn 7
  have g0 := hout 0; have g1 := hout 1; have g2 := hout 2; have g3 := hout 3; have g4 := hout 4; have g5 := hout 5; have g6 := hout 6; have g7 := hout 7
  have h0 := bitI_01 bs (8 * (bs.length / 8) + 0); have h1 := bitI_01 bs (8 * (bs.length / 8) + 1); have h2 := bitI_01 bs (8 * (bs.length / 8) + 2); have h3 := bitI_01 bs (8 * (bs.length / 8) + 3)
  have h4 := bitI_01 bs (8 * (bs.length / 8) + 4); have h5 := bitI_01 bs (8 * (bs.length / 8) + 5); have h6 := bitI_01 bs (8 * (bs.length / 8) + 6); have h7 := bitI_01 bs (8 * (bs.length / 8) + 7)
  unfold byteAt
  rw [Nat.add_zero] at *
  rw [s0, s1, s2, s3, s4, s5, s6, s7]
  clear s0 s1 s2 s3 s4 s5 s6 s7 hsn hout
  generalize bs.length % 8 = r at *
  generalize bitI bs (8 * (bs.length / 8)) = a0 at *
  generalize bitI bs (8 * (bs.length / 8) + 1) = a1 at *
  generalize bitI bs (8 * (bs.length / 8) + 2) = a2 at *
  generalize bitI bs (8 * (bs.length / 8) + 3) = a3 at *
  generalize bitI bs (8 * (bs.length / 8) + 4) = a4 at *
  generalize bitI bs (8 * (bs.length / 8) + 5) = a5 at *
  generalize bitI bs (8 * (bs.length / 8) + 6) = a6 at *
  generalize bitI bs (8 * (bs.length / 8) + 7) = a7 at *
  generalize hB : (if b = true then (1 : Int) else 0) = B
  have hcase : r = 0 ∨ r = 1 ∨ r = 2 ∨ r = 3 ∨ r = 4 ∨ r = 5 ∨ r = 6 ∨ r = 7 := by omega
  rcases hcase with rfl | rfl | rfl | rfl | rfl | rfl | rfl | rfl <;> simp only [Nat.reduceEqDiff, Nat.reduceSub, Int.reducePow, if_true, if_false, Nat.reduceLeDiff, Nat.le_refl, forall_const, false_implies, Nat.zero_le, Nat.not_lt_zero] at * <;> omega

theorem range_map_snoc (bs : List Bool) : (if bs.length % 8 = 0 then pack bs ++ [0] else pack bs) = (List.range (bs.length / 8 + 1)).map (byteAt bs) := by
  unfold pack
  split
  · rename_i h
    rw [show (bs.length + 7) / 8 = bs.length / 8 by omega, List.range_succ, List.map_append]
    congr 1
    simp only [List.map_cons, List.map_nil, List.cons.injEq, and_true]
    unfold byteAt
    rw [bitI_out (by omega), bitI_out (by omega), bitI_out (by omega), bitI_out (by omega), bitI_out (by omega), bitI_out (by omega), bitI_out (by omega), bitI_out (by omega)]
    rfl
  · rename_i h
    rw [show (bs.length + 7) / 8 = bs.length / 8 + 1 by omega]

/-- One bit more. -/
theorem pack_snoc (bs : List Bool) (b : Bool) : pack (bs ++ [b]) = ((List.range (bs.length / 8 + 1)).map (byteAt bs)).set (bs.length / 8) (byteAt bs (bs.length / 8) + (if b then 1 else 0) * 2 ^ (7 - bs.length % 8)) := by
  unfold pack
  rw [show ((bs ++ [b]).length + 7) / 8 = bs.length / 8 + 1 by simp; omega]
  apply List.ext_getElem
  · simp
  · intro i h1 h2
    simp only [List.getElem_map, List.getElem_range, List.getElem_set]
    split
    · rename_i h; subst h; exact (byteAt_snoc_new bs b).1
    · rename_i h; exact byteAt_snoc_old bs b (Ne.symm h)

theorem bitOf_pack (bs : List Bool) (k : Nat) : bitOf (pack bs) k = bs.getD k false := by
  have key : byteAt bs (k / 8) / 2 ^ (7 - k % 8) % 2 = bitI bs k := by
    have hk : k = 8 * (k / 8) + k % 8 := by omega
    have h0 := bitI_01 bs (8 * (k / 8)); have h1 := bitI_01 bs (8 * (k / 8) + 1); have h2 := bitI_01 bs (8 * (k / 8) + 2); have h3 := bitI_01 bs (8 * (k / 8) + 3)
    have h4 := bitI_01 bs (8 * (k / 8) + 4); have h5 := bitI_01 bs (8 * (k / 8) + 5); have h6 := bitI_01 bs (8 * (k / 8) + 6); have h7 := bitI_01 bs (8 * (k / 8) + 7)
    have hr : k % 8 < 8 := Nat.mod_lt _ (by omega)
    unfold byteAt
    generalize k / 8 = q at *
    generalize k % 8 = r at *
    have hcase : r = 0 ∨ r = 1 ∨ r = 2 ∨ r = 3 ∨ r = 4 ∨ r = 5 ∨ r = 6 ∨ r = 7 := by omega
    rcases hcase with rfl | rfl | rfl | rfl | rfl | rfl | rfl | rfl <;> subst hk <;> simp only [Nat.add_zero, Nat.reduceSub, Int.reducePow] at * <;> omega
  have hg : (pack bs).getD (k / 8) 0 = byteAt bs (k / 8) := by
    by_cases h : k / 8 < (bs.length + 7) / 8
    · simp [pack, List.getD, h]
    · have h2 : (pack bs)[k / 8]? = none := List.getElem?_eq_none (by rw [pack_length]; omega)
      have : byteAt bs (k / 8) = 0 := by
        unfold byteAt
        rw [bitI_out (by omega), bitI_out (by omega), bitI_out (by omega), bitI_out (by omega), bitI_out (by omega), bitI_out (by omega), bitI_out (by omega), bitI_out (by omega)]
        rfl
      simp [List.getD, h2, this]
  unfold bitOf
  rw [hg, key]
  unfold bitI
  cases bs.getD k false <;> simp

/-! ### Bytes and their bits -/
theorem nat_or_pow (k : Nat) : ∀ n : Nat, n ||| 2 ^ k = if n / 2 ^ k % 2 = 1 then n else n + 2 ^ k := by
  induction k with
  | zero =>
    intro n
    have h1 := Nat.or_div_two (a := n) (b := 1)
    have h2 := Nat.or_mod_two_eq_one (a := n) (b := 1)
    rw [show (1 : Nat) / 2 = 0 from rfl, Nat.or_zero] at h1
    rw [Nat.pow_zero, Nat.div_one]
    generalize n ||| 1 = m at *
    split <;> omega
  | succ k ih =>
    intro n
    have h1 := Nat.or_div_two (a := n) (b := 2 ^ (k + 1))
    have h2 := Nat.or_mod_two_eq_one (a := n) (b := 2 ^ (k + 1))
    have e : (2 : Nat) ^ (k + 1) = 2 * 2 ^ k := by rw [Nat.pow_succ, Nat.mul_comm]
    have e2 : (2 : Nat) ^ (k + 1) / 2 = 2 ^ k := by omega
    rw [e2, ih (n / 2), Nat.div_div_eq_div_mul, ← e] at h1
    split at h1 <;> rename_i hc
    · rw [if_pos hc]; omega
    · rw [if_neg hc]; omega
theorem ofInt8 {p : Int} (h : 0 ≤ p ∧ p < 256) : (BitVec.ofInt 8 p).toNat = p.toNat := by
  rw [BitVec.toNat_ofInt]
  have : p % ((2 ^ 8 : Nat) : Int) = p := Int.emod_eq_of_lt h.1 (by simp; omega)
  rw [this]
theorem wrap8 {p : Int} (h : 0 ≤ p ∧ p < 256) : IntKind.u8.wrap p = p := by
  have : IntKind.u8.wrap p = p % 256 := rfl
  rw [this]; exact Int.emod_eq_of_lt h.1 h.2
/-- A bit is set that wasn't. -/
theorem or_u8 {p : Int} (k : Nat) (hp : 0 ≤ p ∧ p < 256) (hk : k < 8) (hb : p / 2 ^ k % 2 = 0) :
    IntKind.u8.wrap ((BitVec.ofInt IntKind.u8.bits p ||| BitVec.ofInt IntKind.u8.bits (2 ^ k)).toNat : Int) = p + 2 ^ k := by
  show IntKind.u8.wrap ((BitVec.ofInt 8 p ||| BitVec.ofInt 8 (2 ^ k)).toNat : Int) = _
  have hk2 : (2 : Int) ^ k = ((2 ^ k : Nat) : Int) := by simp
  have hk3 : (2 : Nat) ^ k ≤ 2 ^ 7 := Nat.pow_le_pow_right (by omega) (by omega)
  have hpos := Nat.two_pow_pos k
  have hdm := div_mod_nat k hp.1
  rw [hk2] at hb ⊢
  rw [hdm] at hb
  have hb' : p.toNat / 2 ^ k % 2 = 0 := by omega
  rw [BitVec.toNat_or, ofInt8 hp, ofInt8 (by constructor <;> omega), Int.toNat_natCast, nat_or_pow, if_neg (by omega)]
  have hlt : p.toNat ||| 2 ^ k < 2 ^ 8 := Nat.or_lt_two_pow (by omega) (by omega)
  rw [nat_or_pow, if_neg (by omega)] at hlt
  rw [wrap8 (by omega)]
  omega
/-- A bit is looked at. -/
theorem bit_u8 {p : Int} (r : Nat) (hp : 0 ≤ p ∧ p < 256) (hr : r < 8) :
    (IntKind.u8.wrap ((BitVec.ofInt IntKind.u8.bits (IntKind.u8.wrap (p * 2 ^ r)) &&& BitVec.ofInt IntKind.u8.bits 128).toNat : Int) ≠ 0) ↔ p / 2 ^ (7 - r) % 2 = 1 := by
  have hw : IntKind.u8.wrap (p * 2 ^ r) = p * 2 ^ r % 256 := rfl
  have hm : 0 ≤ p * 2 ^ r % 256 ∧ p * 2 ^ r % 256 < 256 := ⟨Int.emod_nonneg _ (by omega), Int.emod_lt_of_pos _ (by omega)⟩
  rw [hw]
  show (IntKind.u8.wrap ((BitVec.ofInt 8 (p * 2 ^ r % 256) &&& BitVec.ofInt 8 128).toNat : Int) ≠ 0) ↔ _
  rw [BitVec.toNat_and, ofInt8 hm, ofInt8 (by omega), show (128 : Int).toNat = 2 ^ 7 from rfl, nat_and_pow]
  have hd : (p * 2 ^ r % 256).toNat / 2 ^ 7 % 2 = 1 ↔ p / 2 ^ (7 - r) % 2 = 1 := by
    have hcase : r = 0 ∨ r = 1 ∨ r = 2 ∨ r = 3 ∨ r = 4 ∨ r = 5 ∨ r = 6 ∨ r = 7 := by omega
    rcases hcase with rfl | rfl | rfl | rfl | rfl | rfl | rfl | rfl <;> simp only [Nat.reduceSub, Int.reducePow, Nat.reducePow] at * <;> omega
  by_cases h : (p * 2 ^ r % 256).toNat / 2 ^ 7 % 2 = 1
  · rw [if_pos h]; exact ⟨fun _ => hd.1 h, fun _ => by decide⟩
  · rw [if_neg h]; exact ⟨fun h' => absurd rfl h', fun h' => absurd (hd.2 h') h⟩
end Go.Proofs.YtoiebfpafdcbmaaDoor
